/-
  From the close on: whatever a worker does next.
-/
import Derived.Test.YtfgpnfboolbbbaaBbSt
namespace Go.Proofs.Ytfgpnfboolbbbaa
open Go Go.Conc
open Go.ConcN (sumTo upd sumTo_upd upd_ne upd_same le_sumTo sumTo_congr sumTo_le)
theorem upd_self (f : Nat → Nat) (i : Nat) : upd f i (f i) = f := by
  funext a
  by_cases e : a = i
  · rw [e, upd_same]
  · rw [upd_ne f _ e]
theorem Qs.cases {P : Program} {main : Bool} {K : World → Prop} {Stop : Nat → Goroutine → Prop} {n k : Nat} {g : Goroutine} (h : Qs P main K Stop n k g) :
    Stop k g ∨ ∃ n' g' es, n = n' + 1 ∧ (∀ e ∈ es, Event.mute e = true) ∧ (∀ w, K w → stepG P main g w = .go g' w es) ∧ Qs P main K Stop n' (deafBehind k es) g' := by
  cases n with
  | zero => exact .inl h
  | succ n => exact h.imp id fun ⟨_, g', es, h1, h2, h3⟩ => ⟨n, g', es, rfl, h1, h2, h3⟩
section
variable {P : Program} {Sh : Loc → Prop} {Inb : Nat → Option Chair} {st sm : Addr} {qc mC n : Nat} {w0 : World} {Fin : Goroutine → Prop} {t : Tag} {f0 : Nat} {ph fu : Nat → Nat} {gs : Array Goroutine} {x y x' y' : Int} {d : Nat} {T : Trace} {i : Nat} {g g' : Goroutine} {sl : Option (Nat × Nat)}
theorem CtxS.cell_st (C : CtxS P Sh Inb st sm qc n w0) : (wat w0 st sm x y d).cell? st = some (.int .u64 x) := by
  obtain ⟨u, hu⟩ := Option.isSome_iff_exists.1 C.cst
  show ((w0.setCell st (.int .u64 x)).setCell sm (.int .u32 y)).cell? st = _
  rw [World.cell?_setCell_other _ _ _ _ (Ne.symm C.ne)]
  exact World.cell?_setCell_same _ _ _ hu
theorem CtxS.cell_sm (C : CtxS P Sh Inb st sm qc n w0) : (wat w0 st sm x y d).cell? sm = some (.int .u32 y) := by
  obtain ⟨u, hu⟩ := Option.isSome_iff_exists.1 C.csm
  exact World.cell?_setCell_same (w0.setCell st (.int .u64 x)) sm (.int .u32 y) (u := u) (by rw [World.cell?_setCell_other _ _ _ _ C.ne]; exact hu)
theorem CtxS.thaw_st (C : CtxS P Sh Inb st sm qc n w0) : (wat w0 st sm x y d).frozen? st = false := by
  have := C.zst
  show ((w0.setCell st (.int .u64 x)).setCell sm (.int .u32 y)).frozen? st = false
  simp [this]
theorem CtxS.thaw_sm (C : CtxS P Sh Inb st sm qc n w0) : (wat w0 st sm x y d).frozen? sm = false := by
  have := C.zsm
  show ((w0.setCell st (.int .u64 x)).setCell sm (.int .u32 y)).frozen? sm = false
  simp [this]
theorem CtxS.ks (C : CtxS P Sh Inb st sm qc n w0) : KS st sm (wat w0 st sm x y d) := ⟨by rw [C.cell_st]; rfl, by rw [C.cell_sm]; rfl⟩
theorem CtxS.set_st (C : CtxS P Sh Inb st sm qc n w0) (v : Int) : (wat w0 st sm x y d).setCell st (.int .u64 v) = wat w0 st sm v y d := by
  show (((w0.setCell st (.int .u64 x)).setCell sm (.int .u32 y)).setCell st (.int .u64 v)).at d = _
  rw [setCell_comm _ (Ne.symm C.ne) C.spot.2 C.spot.1, setCell_twice]
  rfl
theorem CtxS.set_sm (C : CtxS P Sh Inb st sm qc n w0) (v : Int) : (wat w0 st sm x y d).setCell sm (.int .u32 v) = wat w0 st sm x v d := by
  show (((w0.setCell st (.int .u64 x)).setCell sm (.int .u32 y)).setCell sm (.int .u32 v)).at d = _
  rw [setCell_twice]
  rfl
theorem CtxS.K (C : CtxS P Sh Inb st sm qc n w0) {ch : Chair} (hc : Inb i = some ch) : ch.K (wat w0 st sm x y d) := by
  intro a v hv
  have hp := C.place i (.cell a) ⟨ch, hc, a, v, rfl, hv⟩
  show ((w0.setCell st (.int .u64 x)).setCell sm (.int .u32 y)).cell? a = _
  rw [World.cell?_setCell_other _ _ _ _ (fun e => hp.2 (by rw [e])), World.cell?_setCell_other _ _ _ _ (fun e => hp.1 (by rw [e]))]
  exact C.keep i ch hc a v hv
theorem CtxS.heap (C : CtxS P Sh Inb st sm qc n w0) {c : Nat} {o : Obj} (h : w0.heap[c]? = some o) (ho : o.isChan = true) : (wat w0 st sm x y d).heap[c]? = some o :=
  heap_setCell_chan (heap_setCell_chan h ho) ho
theorem CtxS.deaf_quiet {es : Array Event} (hm : ∀ e ∈ es, Event.mute e = true) : ∀ op ∈ MemOp.ofEvents i g.frame.fn g.frame.place es, op.act.touch? = none ∧ ∀ a, op.act ≠ .mark (.release a) := by
  intro op hop
  obtain ⟨e, he, rfl⟩ := Go.Conc.mem_ofEvents hop
  exact ⟨touch_mute (hm e he), norel_mute (hm e he)⟩
/-- A quiet step. -/
theorem InvS.quietW (C : CtxS P Sh Inb st sm qc n w0) (I : InvS P Sh Inb st sm qc mC Fin n w0 t f0 ph fu gs x y T) (h0 : 0 < i) (hi : gs[i]? = some g) {f' : Nat} {es : Array Event} (hm : ∀ e ∈ es, Event.mute e = true) (hgo : ∀ w, KS st sm w → stepG P false g w = .go g' w es)
    (hW : WSit P st sm Inb i (ph i) f' (deafBehind (Deaf T i) es) g') (hlow : f' < fu i) (d : Nat) :
    ∃ gs' x' y' f0' ph' fu' ops, runT P (crowd gs (wat w0 st sm x y d) sl) i = (.next (crowd gs' (wat w0 st sm x' y' d) sl), ops) ∧ InvS P Sh Inb st sm qc mC Fin n w0 t f0' ph' fu' gs' x' y' (T ++ ops) ∧ LowS n t f0' ph' fu' t f0 ph fu := by
  have hq := CtxS.deaf_quiet (i := i) (g := g) hm
  obtain ⟨gs', f0', ph', fu', h1, h2, h3⟩ := I.goW (x' := x) (y' := y) (d := d) (sl := sl) C h0 hi (hgo _ C.ks) (p := ph i) hW (by rw [upd_self]; exact I.mode)
    (by rw [upd_self]; exact I.tr.mute ofEvents_g (fun op hop => (hq op hop).1) (fun op hop => (hq op hop).2) (fun _ q => q) (fun _ q => q) (fun g' q1 q2 => (I.tr.seen g' q1 q2).app _)) (.inr ⟨rfl, hlow⟩) (fun q => by rw [upd_self]; exact .inl (I.wake q))
  exact ⟨gs', x, y, f0', ph', fu', _, h1, h2, h3⟩
/-- Behind a communication of a worker's own, nobody else is turned. -/
theorem InvS.put (C : CtxS P Sh Inb st sm qc n w0) (I : InvS P Sh Inb st sm qc mC Fin n w0 t f0 ph fu gs x y T) (h0 : 0 < i) (hi : gs[i]? = some g) {p f' : Nat} {ops : Array MemOp} (hops : ∀ op ∈ ops, op.g = i)
    (hW : WSit P st sm Inb i p f' (Deaf (T ++ ops) i) g') (hM : ModeS n (upd ph i p) t x y) (hT : TrS Sh (StOf Inb) st sm qc mC (upd ph i p) (T ++ ops)) (hlow : p < ph i) (hp : 2 ≤ p) :
    InvS P Sh Inb st sm qc mC Fin n w0 t f0 (upd ph i p) (upd fu i f') (gs.setIfInBounds i g') x y (T ++ ops) ∧ LowS n t f0 (upd ph i p) (upd fu i f') t f0 ph fu := by
  have hlt : i < gs.size := (Array.getElem?_eq_some_iff.1 hi).1
  have hin : i < n := by rw [← I.size]; exact hlt
  have hne : (0 : Nat) ≠ i := Nat.ne_of_lt h0
  have hout : ∀ j, n ≤ j → j ≠ i := fun j hj e => by subst e; exact Nat.lt_irrefl _ (Nat.lt_of_lt_of_le hin hj)
  obtain ⟨a, ha, hsit⟩ := I.main
  have hcnt : cntS p ≤ cntS (ph i) := by simp only [cntS]; split <;> split <;> omega
  have hV : VcS n (upd ph i p) ≤ VcS n ph := by have := VcS_upd ph p hin; omega
  have hS : sumTo n (upd ph i p) + ph i = sumTo n ph + p := sumTo_upd ph p id hin
  refine ⟨⟨by simp [I.size], I.pos, ⟨a, ?_, ?_⟩, fun j gj hj0 hj => ?_, by rw [upd_ne ph _ hne]; exact I.ph0, fun j hj => by rw [upd_ne ph _ (hout j hj)]; exact I.out j hj, hM, fun _ => ⟨i, h0, hin, by rw [upd_same]; exact hp⟩, hT, fun j hj => ?_⟩, ?_⟩
  · rw [Array.getElem?_setIfInBounds_ne hne.symm]; exact ha
  · rw [Deaf_other T (g' := i) hne.symm _ hops]; exact hsit
  · by_cases e : j = i
    · subst e
      rw [Array.getElem?_setIfInBounds_self_of_lt hlt] at hj
      obtain rfl := Option.some.inj hj
      rw [upd_same, upd_same]
      exact hW
    · rw [Array.getElem?_setIfInBounds_ne (fun z => e z.symm)] at hj
      rw [upd_ne ph _ e, upd_ne fu _ e, Deaf_other T (g' := i) (fun z => e z.symm) _ hops]
      exact I.wk j gj hj0 hj
  · rw [Deaf_other T (g' := i) (hout j hj).symm _ hops]; exact I.above j hj
  · have hr := t.rank_mono hV
    left; simp only [mu1]; omega
theorem mute_marks {m : Mark} : ∀ op ∈ MemOp.ofEvents i g.frame.fn g.frame.place #[⟨.mark m, false, true⟩], op = { g := i, fn := g.frame.fn, pos := g.frame.place, act := .mark m } := by
  intro op hop
  obtain ⟨e, he, rfl⟩ := Go.Conc.mem_ofEvents hop
  obtain rfl : e = _ := (by simpa using he)
  rfl
theorem ofEvents_mark (m : Mark) (fn : FuncId) (pos : String) : MemOp.ofEvents i fn pos #[⟨.mark m, false, true⟩] = #[{ g := i, fn := fn, pos := pos, act := .mark m }] := by rw [ofEvents_eq]; simp [MemAct.ofEvent]
theorem bkS_r {a : Addr} (ha : a = st ∨ a = sm) : ∀ e ∈ (#[⟨.cell a, false, true⟩] : Array Event), BkS st sm e := by intro e he; obtain rfl : e = _ := (by simpa using he); exact .inr ⟨a, _, rfl, ha⟩
theorem bkS_w {a : Addr} (ha : a = st ∨ a = sm) : ∀ e ∈ (#[⟨.cell a, true, true⟩] : Array Event), BkS st sm e := by intro e he; obtain rfl : e = _ := (by simpa using he); exact .inr ⟨a, _, rfl, ha⟩
theorem bkS_rw {a : Addr} (ha : a = st ∨ a = sm) : ∀ e ∈ (#[⟨.cell a, false, true⟩, ⟨.cell a, true, true⟩] : Array Event), BkS st sm e := by intro e he; simp at he; rcases he with rfl | rfl <;> exact .inr ⟨a, _, rfl, ha⟩
theorem bkS_sem {a : Addr} (ha : a = st ∨ a = sm) : ∀ e ∈ semEvents a, BkS st sm e := by
  intro e he
  simp [semEvents] at he
  rcases he with rfl | rfl | rfl | rfl
  · exact .inl (.inl rfl)
  · exact .inr ⟨a, _, rfl, ha⟩
  · exact .inr ⟨a, _, rfl, ha⟩
  · exact .inl (.inr rfl)
theorem deaf_cells {k : Nat} {es : Array Event} (h : ∀ e ∈ es, ∃ a wr, e = (⟨.cell a, wr, true⟩ : Event)) : ∀ j, deafBehind k (es.extract 0 j) = k := fun j => deafBehind_still (fun e he => by
  have he' : e ∈ es := by
    obtain ⟨m, hm, rfl⟩ := Array.getElem_of_mem he
    rw [Array.getElem_extract]
    exact Array.getElem_mem _
  obtain ⟨a, wr, rfl⟩ := h e he'
  exact ⟨by simp, by simp⟩) k
theorem deaf_all {k : Nat} {es : Array Event} (h : ∀ e ∈ es, ∃ a wr, e = (⟨.cell a, wr, true⟩ : Event)) : deafBehind k es = k := deafBehind_still (fun e he => by
  obtain ⟨a, wr, rfl⟩ := h e he
  exact ⟨by simp, by simp⟩) k
theorem cells_r (a : Addr) : ∀ e ∈ (#[⟨.cell a, false, true⟩] : Array Event), ∃ b wr, e = (⟨.cell b, wr, true⟩ : Event) := by intro e he; obtain rfl : e = _ := (by simpa using he); exact ⟨a, _, rfl⟩
theorem cells_w (a : Addr) : ∀ e ∈ (#[⟨.cell a, true, true⟩] : Array Event), ∃ b wr, e = (⟨.cell b, wr, true⟩ : Event) := by intro e he; obtain rfl : e = _ := (by simpa using he); exact ⟨a, _, rfl⟩
theorem cells_rw (a : Addr) : ∀ e ∈ (#[⟨.cell a, false, true⟩, ⟨.cell a, true, true⟩] : Array Event), ∃ b wr, e = (⟨.cell b, wr, true⟩ : Event) := by intro e he; simp at he; rcases he with rfl | rfl <;> exact ⟨a, _, rfl⟩
theorem deaf_sem (k : Nat) (a : Addr) : deafBehind k (semEvents a) = k := rfl
theorem sem_inside {k : Nat} (hk : 1 ≤ k) (a : Addr) : ∀ j e, (semEvents a)[j]? = some e → (MemAct.ofEvent e).touch? = none ∨ 0 < deafBehind k ((semEvents a).extract 0 j) := by
  intro j e he
  simp only [semEvents] at he ⊢
  match j, he with
  | 0, he => left; obtain rfl := Option.some.inj he; rfl
  | 1, he => right; show 0 < k + 1; omega
  | 2, he => right; show 0 < k + 1; omega
  | 3, he => left; obtain rfl := Option.some.inj he; rfl
  | j + 4, he => simp at he
end
end Go.Proofs.Ytfgpnfboolbbbaa
namespace Go.Proofs.Ytfgpnfboolbbbaa
open Go Go.Conc
open Go.ConcN (sumTo upd sumTo_upd upd_ne upd_same le_sumTo sumTo_congr sumTo_le)
section
variable {P : Program} {Sh : Loc → Prop} {Inb : Nat → Option Chair} {st sm : Addr} {qc mC n : Nat} {w0 : World} {Fin : Goroutine → Prop} {t : Tag} {f0 : Nat} {ph fu : Nat → Nat} {gs : Array Goroutine} {x y x' y' : Int} {d : Nat} {T : Trace} {i : Nat} {g g' : Goroutine} {sl : Option (Nat × Nat)}
theorem offers_none {h : Goroutine} (hn : h.offers = none) (c : Nat) (b : Bool) : offersAt h c b = [] := by
  unfold offersAt
  rw [hn]
  split
  · rename_i q; cases q
  · rfl
/-- Nobody offers a send. -/
theorem InvS.noSend (C : CtxS P Sh Inb st sm qc n w0) (I : InvS P Sh Inb st sm qc mC Fin n w0 t f0 ph fu gs x y T) {j : Nat} {gj : Goroutine} (hj : gs[j]? = some gj) (c : Nat) : offersAt gj c true = [] := by
  by_cases e : j = 0
  · subst e
    obtain ⟨a, ha, hsit⟩ := I.main
    rw [ha] at hj
    obtain rfl := Option.some.inj hj
    rcases hsit with ⟨m, _, h⟩ | ⟨_, _, a₀, rfl, h⟩
    · exact offersAt_of_not_blocked (by rw [Qs.running (fun _ _ q => Tag.running P st sm Fin q) h]; simp) _ _
    · exact offers_none (h := { a₀ with status := .blocked }) h.2.1 _ _
  · have := (I.wk j gj (by omega) hj).status (fun ch hc => ⟨w0, C.keep j ch hc⟩)
    exact offersAt_of_not_blocked (by rcases this with q | q <;> rw [q] <;> simp) _ _
theorem exists_counted (h0 : ph 0 = 0) (hv : 1 ≤ VcS n ph) : ∃ j, 0 < j ∧ j < n ∧ 2 ≤ ph j := by
  refine Classical.byContradiction fun hno => ?_
  have : ∀ j, j ≤ n → sumTo j (fun i => cntS (ph i)) = 0 := by
    intro j
    induction j with
    | zero => exact fun _ => rfl
    | succ j ih =>
      intro hj
      rw [sumTo, ih (by omega)]
      by_cases e : j = 0
      · subst e; simp [cntS, h0]
      · have h1 : ¬ 2 ≤ ph j := fun q => hno ⟨j, by omega, by omega, q⟩
        simp only [cntS]
        rw [if_neg (by omega)]
  have := this n (Nat.le_refl _)
  simp only [VcS] at hv
  omega
/-- ████ A WORKER's STEP. ████ -/
theorem InvS.worker (C : CtxS P Sh Inb st sm qc n w0) (I : InvS P Sh Inb st sm qc mC Fin n w0 t f0 ph fu gs x y T) (h0 : 0 < i) (hi : gs[i]? = some g) (hrun : g.status = .running) (d : Nat) (sl : Option (Nat × Nat)) :
    ∃ gs' x' y' f0' ph' fu' ops, runT P (crowd gs (wat w0 st sm x y d) sl) i = (.next (crowd gs' (wat w0 st sm x' y' d) sl), ops) ∧ InvS P Sh Inb st sm qc mC Fin n w0 t f0' ph' fu' gs' x' y' (T ++ ops) ∧ LowS n t f0' ph' fu' t f0 ph fu := by
  have hlt : i < gs.size := (Array.getElem?_eq_some_iff.1 hi).1
  have hin : i < n := by rw [← I.size]; exact hlt
  have hi0 : (i == 0) = false := by simp; omega
  have hsmall := C.small
  rcases I.wk i g h0 hi with ⟨hp, hk, ch, hc, m, wx, hf, hG⟩ | ⟨hp, m, hf, hQ⟩ | ⟨hp, m, hf, hQ⟩ | ⟨hp, m, hf, hQ⟩ | ⟨hp, m, hf, hQ⟩ | ⟨hp, m, hf, hQ⟩ | ⟨hp, hQ⟩
  · -- on its way to its seat, or there
    have hKw : ch.K (wat w0 st sm x y d) := C.K hc
    have hcase : (∃ g₂, AtIn P false ch.K ch.St ch.B ch.seat g g₂) ∨ ∃ m' g' es, m = m' + 1 ∧ stepG P false g (wat w0 st sm x y d) = .go g' (wat w0 st sm x y d) es ∧ (∀ e ∈ es, EvC ch.St ch.B e) ∧ Goes P false (RK ch.K) (DS ch.St ch.B) (fun g _ => ∃ g₂, AtIn P false ch.K ch.St ch.B ch.seat g g₂) m' g' (wat w0 st sm x y d) := by
      cases m with
      | zero => exact .inl (hG _ hKw)
      | succ m' =>
        rcases hG with hstop | ⟨_, hstep⟩
        · exact .inl (hstop _ hKw)
        · have hs := hstep _ hKw
          cases hgo : stepG P false g (wat w0 st sm x y d) with
          | go g' w' es =>
            rw [hgo, goes_go] at hs
            obtain ⟨⟨rfl, hes⟩, hG'⟩ := hs
            exact .inr ⟨m', g', es, rfl, rfl, hes, hG'⟩
          | _ => rw [hgo] at hs; exact hs.elim
    rcases hcase with ⟨g₂, hat⟩ | ⟨m', g', es, hm, hgo, hes, hG'⟩
    · obtain ⟨_, _, _, _, hhome, es, hes, hstp⟩ := id hat
      obtain ⟨hops, hr, hl, hd⟩ := evC_ops (i := i) (fn := g.frame.fn) (pos := g.frame.place) hes
      obtain ⟨kk, z, hkk, hnext⟩ := C.wakes i ch hc
      obtain ⟨cap, ck, hq⟩ := C.quit
      have hq' : (wat w0 st sm x y d).heap[qc]? = some (.chan cap #[] true ck ck false) := C.heap hq rfl
      have hns : ∀ (j : Nat) (gj : Goroutine), (gs.setIfInBounds i Go.Conc.ph)[j]? = some gj → ∀ c, offersAt gj c true = [] := fun j gj hj c => by
        rcases getElem?_stand gs i j gj hj with ⟨_, rfl⟩ | ⟨_, hj'⟩
        · exact offersAt_ph _ _
        · exact I.noSend C hj' c
      have ho : ∀ (m : Nat) (c' : CommCase), m ≠ kk → ch.seat.cases[m]? = some c' → NoWays (wat w0 st sm x y d) (gs.setIfInBounds i Go.Conc.ph) c' := by
        intro m c' hm hc'
        obtain ⟨c₂, z₂, rfl⟩ := (C.wf i ch hc).recvs c' (Array.mem_of_getElem? hc')
        have hne : c₂ ≠ qc := fun e => by subst e; exact hm ((C.wf i ch hc).apart m kk _ _ _ hc' hkk)
        rcases C.chan i ch c₂ hc ⟨m, z₂, hc'⟩ with e | ⟨cap₂, k₂, hc₂⟩
        · exact (hne e).elim
        · exact ways_recv_none (C.heap hc₂ rfl) (partners_nil fun j gj hj => hns j gj hj c₂)
      have hrt := crowd_sel_recv_closed (P := P) (sl := sl) hi (by rw [hi0]; exact hstp _ hKw) hkk ho hq' (partners_nil fun j gj hj => hns j gj hj qc)
      obtain ⟨m6, hQ6⟩ := hnext g₂ hhome
      have hfin : g₂.finishComm P ch.seat.cases ch.seat.shape kk z false = Go.Conc.served g₂ (commResult ch.seat.cases ch.seat.shape kk z false) := finishComm_served _ _ _ _ _ _ _
      have hdT : Deaf (T ++ MemOp.ofEvents i g.frame.fn g.frame.place es) i = 0 := (hd T).trans hk
      have t1 : TrS Sh (StOf Inb) st sm qc mC ph (T ++ MemOp.ofEvents i g.frame.fn g.frame.place es) := I.tr.read hp hops (fun op hop b hb => ⟨(hr op hop b hb).1, ⟨ch, hc, (hr op hop b hb).2⟩⟩)
        (fun op hop a q => by obtain ⟨e, he, rfl⟩ := Go.Conc.mem_ofEvents hop; exact norel_read (hes e he) a q) (fun l hl => C.place i l hl)
      have t2 := t1.wake (ph' := upd ph i 6) hdT g₂.frame.fn g₂.frame.place (fun j hj => upd_ne ph _ hj) hp (by rw [upd_same])
      have hda : Deaf (T ++ (MemOp.ofEvents i g.frame.fn g.frame.place es ++ #[{ g := i, fn := g₂.frame.fn, pos := g₂.frame.place, act := .recvClosed qc }])) i = 0 := by
        rw [← Array.append_assoc, Deaf_push]
        exact hdT
      rw [Array.append_assoc] at t2
      obtain ⟨I', hl'⟩ := I.put (g' := Go.Conc.served g₂ (commResult ch.seat.cases ch.seat.shape kk z false)) (p := 6) (f' := m6 + 1) (ops := MemOp.ofEvents i g.frame.fn g.frame.place es ++ #[{ g := i, fn := g₂.frame.fn, pos := g₂.frame.place, act := .recvClosed qc }]) C h0 hi
        (fun op hop => by
          rcases Array.mem_append.1 hop with q | q
          · exact hops op q
          · obtain rfl : op = _ := (by simpa using q); rfl)
        (.inr (.inl ⟨rfl, m6, rfl, by rw [hda]; exact hQ6⟩)) (I.mode.counted h0 hin (by omega) (.inl rfl)) t2 (by omega) (by omega)
      exact ⟨_, x, y, f0, _, _, _, by rw [hrt, hfin], I', hl'⟩
    · obtain ⟨hops, hr, hl, hd⟩ := evC_ops (i := i) (fn := g.frame.fn) (pos := g.frame.place) hes
      have hdk : deafBehind (Deaf T i) es = 0 := by rw [← Deaf_own]; exact (hd T).trans hk
      obtain ⟨gs', f0', ph', fu', h1, h2, h3⟩ := I.goW (x' := x) (y' := y) (d := d) (sl := sl) C h0 hi hgo (p := ph i) (f' := m' + 1) (.inl ⟨hp, hdk, ch, hc, m', _, rfl, hG'⟩) (by rw [upd_self]; exact I.mode)
        (by
          rw [upd_self]
          exact I.tr.read hp hops (fun op hop b hb => ⟨(hr op hop b hb).1, ⟨ch, hc, (hr op hop b hb).2⟩⟩) (fun op hop a q => by obtain ⟨e, he, rfl⟩ := Go.Conc.mem_ofEvents hop; exact norel_read (hes e he) a q) (fun l hl => C.place i l hl))
        (.inr ⟨rfl, by omega⟩) (fun q => by rw [upd_self]; exact .inl (I.wake q))
      exact ⟨gs', x, y, f0', ph', fu', _, h1, h2, h3⟩
  · -- on its way to its word
    rcases hQ.cases with ⟨hr, hk, g', ⟨m', hQ'⟩, hgo⟩ | ⟨m', g', es, hm, hmu, hgo, hQ'⟩
    · obtain ⟨gs', f0', ph', fu', h1, h2, h3⟩ := I.goW (x' := x) (y' := y) (d := d) (sl := sl) C h0 hi (hgo _) (p := 5) (f' := m' + 1)
        (.inr (.inr (.inl ⟨rfl, m', rfl, by rw [hk]; exact hQ'⟩))) (I.mode.counted h0 hin (by omega) (.inr rfl))
        (by rw [ofEvents_mark]; exact I.tr.relm hk _ _ (fun j hj => upd_ne ph _ hj) hp (by rw [upd_same])) (.inl (by omega)) (fun _ => .inl ⟨i, h0, hin, by rw [upd_same]; omega⟩)
      exact ⟨gs', x, y, f0', ph', fu', _, h1, h2, h3⟩
    · exact I.quietW C h0 hi hmu hgo (f' := m' + 1) (.inr (.inl ⟨hp, m', rfl, hQ'⟩)) (by omega) d
  · -- on its way to its Add
    rcases hQ.cases with ⟨hr, hk, hadd⟩ | ⟨m', g', es, hm, hmu, hgo, hQ'⟩
    · obtain ⟨v, wt, hv, hwt, hx, hy, hmode⟩ := I.mode.atAdd I.ph0 h0 hin hp
      have hVn := VcS_le n ph
      obtain ⟨g', hnext, hgo⟩ := hadd v wt (by omega) hwt
      have hgo' := hgo (wat w0 st sm x y d) (by rw [C.cell_st, hx]) C.thaw_st
      rw [C.set_st] at hgo'
      subst hy
      have hT : ∀ p, p ≤ 5 → TrS Sh (StOf Inb) st sm qc mC (upd ph i p) (T ++ MemOp.ofEvents i g.frame.fn g.frame.place #[⟨.cell st, false, true⟩, ⟨.cell st, true, true⟩]) := fun p hp5 =>
        I.tr.book (bkS_rw (.inl rfl)) (fun j e _ => .inr (by rw [deaf_cells (cells_rw st)]; omega)) (by omega) (fun j hj => upd_ne ph _ hj) (by rw [upd_same]; exact hp5) C.place
      by_cases e : v = 0 ∧ wt = 1
      · rw [if_pos e] at hnext
        obtain ⟨m', hQ'⟩ := hnext
        obtain ⟨gs', f0', ph', fu', h1, h2, h3⟩ := I.goW (d := d) (sl := sl) C h0 hi hgo' (p := 4) (f' := m' + 1) (.inr (.inr (.inr (.inl ⟨rfl, m', rfl, by rw [deaf_all (cells_rw st)]; exact hQ'⟩)))) (hmode 4 (by rw [if_pos e])) (hT 4 (by omega)) (.inl (by omega))
          (fun _ => .inl ⟨i, h0, hin, by rw [upd_same]; omega⟩)
        exact ⟨gs', _, _, f0', ph', fu', _, h1, h2, h3⟩
      · rw [if_neg e] at hnext
        obtain ⟨m', hQ'⟩ := hnext
        have hm1 := hmode 1 (by rw [if_neg e])
        obtain ⟨gs', f0', ph', fu', h1, h2, h3⟩ := I.goW (d := d) (sl := sl) C h0 hi hgo' (p := 1) (f' := m') (.inr (.inr (.inr (.inr (.inr (.inr ⟨rfl, by rw [deaf_all (cells_rw st)]; exact hQ'.quits⟩)))))) hm1 (hT 1 (by omega)) (.inl (by omega))
          (fun hf0 => .inl (by
            have hVu := VcS_upd ph 1 hin
            have c1 : cntS (ph i) = 1 := by simp [cntS, hp]
            have c2 : cntS 1 = 0 := rfl
            refine exists_counted (by rw [upd_ne ph _ (Nat.ne_of_lt h0)]; exact I.ph0) ?_
            obtain ⟨a, ha, hsit⟩ := I.main
            rcases hsit with ⟨q, hq, _⟩ | ⟨rfl, _⟩
            · omega
            · -- goroutine 0 waits: it is counted in
              have hwt1 : wt = 1 := by
                have hm := I.mode
                rw [hx] at hm
                generalize hX : ((v + 1 : Nat) : Int) * K32 + (wt : Int) = X at hm
                generalize hY : (0 : Int) = Y at hm
                cases hm with
                | opn h1 _ => exact h1.elim
                | reg _ _ _ => rw [hv] at hX; simp only [K32] at hX; omega
                | last L _ _ _ h4 h5 =>
                  by_cases eL : i = L
                  · subst eL; omega
                  · have := h5 i h0 hin eL; omega
                | sema _ h5 => have := h5 i h0 hin; omega
                | fin h1 _ => exact h1.elim
              omega))
        exact ⟨gs', _, _, f0', ph', fu', _, h1, h2, h3⟩
    · exact I.quietW C h0 hi hmu hgo (f' := m' + 1) (.inr (.inr (.inl ⟨hp, m', rfl, hQ'⟩))) (by omega) d
  · -- the last one: on its way to its load
    rcases hQ.cases with ⟨hr, hk, g', ⟨m', hQ'⟩, hgo⟩ | ⟨m', g', es, hm, hmu, hgo, hQ'⟩
    · obtain ⟨hreg, hoth, hx, hy⟩ := I.mode.isLast h0 hin (.inl hp)
      rw [if_neg (by omega)] at hx
      subst hx hy
      obtain ⟨gs', f0', ph', fu', h1, h2, h3⟩ := I.goW (x' := 1) (y' := 0) (d := d) (sl := sl) C h0 hi (hgo _ C.cell_st) (p := 3) (f' := m' + 1) (.inr (.inr (.inr (.inr (.inl ⟨rfl, m', rfl, by rw [deaf_all (cells_r st)]; exact hQ'⟩)))))
        (ModeS.next hreg hoth h0 hin (p := 3) (.inr (.inl rfl))) (I.tr.book (bkS_r (.inl rfl)) (fun j e _ => .inr (by rw [deaf_cells (cells_r st)]; omega)) (by omega) (fun j hj => upd_ne ph _ hj) (by rw [upd_same]; omega) C.place) (.inl (by omega))
        (fun _ => .inl ⟨i, h0, hin, by rw [upd_same]; omega⟩)
      exact ⟨gs', _, _, f0', ph', fu', _, h1, h2, h3⟩
    · exact I.quietW C h0 hi hmu hgo (f' := m' + 1) (.inr (.inr (.inr (.inl ⟨hp, m', rfl, hQ'⟩)))) (by omega) d
  · -- to its store
    rcases hQ.cases with ⟨hr, hk, g', ⟨m', hQ'⟩, hgo⟩ | ⟨m', g', es, hm, hmu, hgo, hQ'⟩
    · obtain ⟨hreg, hoth, hx, hy⟩ := I.mode.isLast h0 hin (.inr (.inl hp))
      rw [if_neg (by omega)] at hx
      subst hx hy
      have hgo' := hgo (wat w0 st sm 1 0 d) _ C.cell_st C.thaw_st
      rw [C.set_st] at hgo'
      obtain ⟨gs', f0', ph', fu', h1, h2, h3⟩ := I.goW (d := d) (sl := sl) C h0 hi hgo' (p := 2) (f' := m' + 1) (.inr (.inr (.inr (.inr (.inr (.inl ⟨rfl, m', rfl, by rw [deaf_all (cells_w st)]; exact hQ'⟩))))))
        (ModeS.next hreg hoth h0 hin (p := 2) (.inr (.inr rfl))) (I.tr.book (bkS_w (.inl rfl)) (fun j e _ => .inr (by rw [deaf_cells (cells_w st)]; omega)) (by omega) (fun j hj => upd_ne ph _ hj) (by rw [upd_same]; omega) C.place) (.inl (by omega))
        (fun _ => .inl ⟨i, h0, hin, by rw [upd_same]; omega⟩)
      exact ⟨gs', _, _, f0', ph', fu', _, h1, h2, h3⟩
    · exact I.quietW C h0 hi hmu hgo (f' := m' + 1) (.inr (.inr (.inr (.inr (.inl ⟨hp, m', rfl, hQ'⟩))))) (by omega) d
  · -- to the semaphore
    rcases hQ.cases with ⟨hr, hmw, hk, g', ⟨m', hQ'⟩, hgo⟩ | ⟨m', g', es, hm, hmu, hgo, hQ'⟩
    · obtain ⟨hreg, hoth, hx, hy⟩ := I.mode.isLast h0 hin (.inr (.inr hp))
      rw [if_pos hp] at hx
      subst hx hy
      have hgo' := hgo (wat w0 st sm 0 0 d) _ C.cell_sm C.thaw_sm
      rw [C.set_sm] at hgo'
      have e1 : IntKind.u32.wrap (0 + 1) = 1 := by decide
      rw [e1] at hgo'
      obtain ⟨gs', f0', ph', fu', h1, h2, h3⟩ := I.goW (d := d) (sl := sl) C h0 hi hgo' (p := 1) (f' := m') (.inr (.inr (.inr (.inr (.inr (.inr ⟨rfl, by rw [deaf_sem]; exact hQ'.quits⟩))))))
        (ModeS.gone hreg hoth) (I.tr.book (bkS_sem (.inr rfl)) (sem_inside hk sm) (by omega) (fun j hj => upd_ne ph _ hj) (by rw [upd_same]; omega) C.place) (.inl (by omega)) (fun _ => .inr hmw)
      exact ⟨gs', _, _, f0', ph', fu', _, h1, h2, h3⟩
    · exact I.quietW C h0 hi hmu hgo (f' := m' + 1) (.inr (.inr (.inr (.inr (.inr (.inl ⟨hp, m', rfl, hQ'⟩)))))) (by omega) d
  · -- it only leaves
    generalize hfu : fu i = m at hQ
    cases m with
    | zero => rw [hQ.1] at hrun; cases hrun
    | succ m =>
      rcases hQ with ⟨hf, _⟩ | ⟨_, g', es, hmu, hgo, hQ'⟩
      · rw [hf] at hrun; cases hrun
      · exact I.quietW C h0 hi hmu (fun w _ => hgo w) (f' := m) (.inr (.inr (.inr (.inr (.inr (.inr ⟨hp, hQ'⟩)))))) (by omega) d
end
end Go.Proofs.Ytfgpnfboolbbbaa
namespace Go.Proofs.Ytfgpnfboolbbbaa
open Go Go.Conc
open Go.ConcN (sumTo upd sumTo_upd upd_ne upd_same le_sumTo sumTo_congr sumTo_le)
section
variable {P : Program} {Post : Value → World → Prop} {Sh : Loc → Prop} {Inb : Nat → Option Chair} {st sm : Addr} {qc mC n : Nat} {w0 : World} {Fin : Goroutine → Prop} {t t' : Tag} {f0 f0' : Nat} {ph fu : Nat → Nat} {gs : Array Goroutine} {x y x' y' : Int} {d : Nat} {T : Trace} {i : Nat} {a a' : Goroutine} {sl : Option (Nat × Nat)}
theorem InvS.goM (C : CtxS P Sh Inb st sm qc n w0) (I : InvS P Sh Inb st sm qc mC Fin n w0 t f0 ph fu gs x y T) (ha : gs[0]? = some a) {es : Array Event} (hgo : stepG P true a (wat w0 st sm x y d) = .go a' (wat w0 st sm x' y' d) es)
    (hS : MSit P st sm Fin t' f0' (deafBehind (Deaf T 0) es) a') (hM : ModeS n ph t' x' y') (hT : TrS Sh (StOf Inb) st sm qc mC ph (T ++ MemOp.ofEvents 0 a.frame.fn a.frame.place es))
    (hlow : t'.rank (VcS n ph) < t.rank (VcS n ph) ∨ (t'.rank (VcS n ph) = t.rank (VcS n ph) ∧ f0' < f0)) (hwk : f0' = 0 → ∃ j, 0 < j ∧ j < n ∧ 2 ≤ ph j) :
    ∃ gs' x' y' t' f0' ph' fu' ops, runT P (crowd gs (wat w0 st sm x y d) sl) 0 = (.next (crowd gs' (wat w0 st sm x' y' d) sl), ops) ∧ InvS P Sh Inb st sm qc mC Fin n w0 t' f0' ph' fu' gs' x' y' (T ++ ops) ∧ LowS n t' f0' ph' fu' t f0 ph fu := by
  have hlt : 0 < gs.size := (Array.getElem?_eq_some_iff.1 ha).1
  refine ⟨_, x', y', t', f0', ph, fu, _, runT_crowd_go (P := P) (sl := sl) (i := 0) ha hgo, ⟨by simp [I.size], I.pos, ⟨a', Array.getElem?_setIfInBounds_self_of_lt (by simpa using hlt), by rw [Deaf_own]; exact hS⟩, fun j gj hj0 hj => ?_, I.ph0, I.out, hM, hwk, hT, fun j hj => ?_⟩, ?_⟩
  · rw [Array.getElem?_setIfInBounds_ne (Nat.ne_of_lt hj0), Array.getElem?_map] at hj
    obtain ⟨gj', hj', rfl⟩ := Option.map_eq_some_iff.1 hj
    have h1 := I.wk j gj' hj0 hj'
    rw [woken_of_again (again_of_running (h1.status fun ch hc => ⟨w0, C.keep j ch hc⟩) _), Deaf_other T (g' := 0) (Nat.ne_of_lt hj0) _ ofEvents_g]
    exact h1
  · have := I.pos
    rw [Deaf_other T (g' := 0) (by clear hwk; omega) _ ofEvents_g]
    exact I.above j hj
  · clear hwk
    rcases hlow with q | ⟨q, q2⟩
    · left; simp only [mu1]; omega
    · right; simp only [mu1, mu2]; omega
theorem ModeS.reg_tag {t t' : Tag} (hm : ModeS n ph t x y) (h : t.reg) (h' : t'.reg) : ModeS n ph t' x y := by
  cases hm with
  | opn h1 _ => cases t <;> first | exact h.elim | exact h1.elim
  | reg _ h2 h3 => exact .reg h' h2 h3
  | last L _ h2 h3 h4 h5 => exact .last L h' h2 h3 h4 h5
  | sema _ h2 => exact .sema h' h2
  | fin h1 _ => cases t <;> first | exact h.elim | exact h1.elim
theorem ModeS.fin_inv {t : Tag} (hm : ModeS n ph t x y) (h : t.fin) : AllS n ph ∧ x = 0 ∧ y = 0 := by
  cases hm with
  | opn h1 _ => cases t <;> first | exact h.elim | exact h1.elim
  | reg h1 _ _ => cases t <;> first | exact h.elim | exact h1.elim
  | last L h1 _ _ _ _ => cases t <;> first | exact h.elim | exact h1.elim
  | sema h1 _ => cases t <;> first | exact h.elim | exact h1.elim
  | fin _ h2 => exact ⟨h2, rfl, rfl⟩
theorem ModeS.opn_inv {t : Tag} (hm : ModeS n ph t x y) (h : ¬ t.reg) (h' : ¬ t.fin) : t.opn (VcS n ph) ∧ OpenS n ph ∧ x = (VcS n ph : Int) * K32 ∧ y = 0 := by
  cases hm with
  | opn h1 h2 => exact ⟨h1, h2, rfl, rfl⟩
  | reg h1 _ _ => exact (h h1).elim
  | last L h1 _ _ _ _ => exact (h h1).elim
  | sema h1 _ => exact (h h1).elim
  | fin h1 _ => exact (h' h1).elim
theorem ModeS.reg_inv {t : Tag} (hm : ModeS n ph t x y) (h0 : ph 0 = 0) (h : t.reg) : (y = 1 ∧ x = 0 ∧ AllS n ph) ∨ (y = 0 ∧ ∃ j, 0 < j ∧ j < n ∧ 2 ≤ ph j) := by
  cases hm with
  | opn h1 _ => cases t <;> first | exact h.elim | exact h1.elim
  | reg _ _ h3 => exact .inr ⟨rfl, exists_counted h0 h3⟩
  | last L _ h2 h3 h4 _ => exact .inr ⟨rfl, L, h2, h3, by omega⟩
  | sema _ h2 => exact .inl ⟨rfl, rfl, h2⟩
  | fin h1 _ => cases t <;> first | exact h.elim | exact h1.elim
theorem main_r {a : Addr} (ha : a = st ∨ a = sm) : ∀ e ∈ (#[⟨.cell a, false, true⟩] : Array Event), BkS st sm e ∨ e = ⟨.mark (.write sm), false, true⟩ := fun e he => .inl (bkS_r ha e he)
/-- Goroutine 0 stands at its Acquire, and all have gone. -/
structure DoneS (P : Program) (Sh : Loc → Prop) (Inb : Nat → Option Chair) (st sm : Addr) (qc mC : Nat) (Fin : Goroutine → Prop) (n : Nat) (w0 : World) (t : Tag) (f0 : Nat) (ph fu : Nat → Nat) (gs : Array Goroutine) (x y : Int) (T : Trace) (a : Goroutine) : Prop where
  inv : InvS P Sh Inb st sm qc mC Fin n w0 t f0 ph fu gs x y T
  tag : t = .acq
  here : gs[0]? = some a
  stop : AtAcq P st Fin (Deaf T 0) a
/-- ████ GOROUTINE 0's STEP. ████ -/
theorem InvS.main_step (C : CtxS P Sh Inb st sm qc n w0) (I : InvS P Sh Inb st sm qc mC Fin n w0 t f0 ph fu gs x y T) (ha : gs[0]? = some a) (hrun : a.status = .running) (d : Nat) (sl : Option (Nat × Nat)) :
    DoneS P Sh Inb st sm qc mC Fin n w0 t f0 ph fu gs x y T a ∨
    ∃ gs' x' y' t' f0' ph' fu' ops, runT P (crowd gs (wat w0 st sm x y d) sl) 0 = (.next (crowd gs' (wat w0 st sm x' y' d) sl), ops) ∧ InvS P Sh Inb st sm qc mC Fin n w0 t' f0' ph' fu' gs' x' y' (T ++ ops) ∧ LowS n t' f0' ph' fu' t f0 ph fu := by
  obtain ⟨a1, ha1, hsit⟩ := I.main
  obtain rfl : a = a1 := by rw [ha] at ha1; exact Option.some.inj ha1
  have hb1 : ∀ k : Nat, deafBehind k #[⟨.cell st, false, true⟩] = k := fun k => deaf_all (cells_r st)
  have hb2 : ∀ k : Nat, deafBehind k #[⟨.cell st, false, true⟩, ⟨.cell st, true, true⟩] = k := fun k => deaf_all (cells_rw st)
  rcases hsit with ⟨m, hf, hQ⟩ | ⟨_, _, a₀, rfl, _⟩
  · rcases hQ.cases with hstop | ⟨m', g', es, hm, hmu, hgo, hQ'⟩
    · have hT1 : TrS Sh (StOf Inb) st sm qc mC ph (T ++ MemOp.ofEvents 0 a.frame.fn a.frame.place #[⟨.cell st, false, true⟩]) := I.tr.main (main_r (.inl rfl)) C.place
      cases t with
      | ld mm =>
        right
        obtain ⟨hop, hO, hx, hy⟩ := I.mode.opn_inv (fun q => q) (fun q => q)
        subst hy
        simp only [Tag.opn] at hop
        by_cases hv : VcS n ph = 0
        · obtain ⟨_, g', ⟨m', hQ'⟩, hgo⟩ := AtLd.zero P st sm Fin hstop
          exact I.goM (x' := x) (y' := 0) (t' := .acq) (f0' := m' + 1) C ha (hgo _ (by rw [C.cell_st, hx, hv]; simp)) (.inl ⟨m', rfl, by rw [hb1]; exact hQ'⟩) (by rw [hx, hv]; simpa using ModeS.fin (t := .acq) trivial (AllS.of_open hO hv)) hT1 (.inl (by simp only [Tag.rank]; omega)) (fun q => by omega)
        · obtain ⟨m2, rfl⟩ : ∃ m2, mm = m2 + 1 := ⟨mm - 1, by omega⟩
          obtain ⟨g', ⟨m', hQ'⟩, hgo⟩ := hstop.2 (VcS n ph) (by omega) hop
          exact I.goM (x' := x) (y' := 0) (t' := .cas m2 (VcS n ph)) (f0' := m' + 1) C ha (hgo _ (by rw [C.cell_st, hx])) (.inl ⟨m', rfl, by rw [hb1]; exact hQ'⟩) (by rw [hx]; exact .opn ⟨Nat.le_refl _, by omega, hop⟩ hO) hT1 (.inl (by simp only [Tag.rank]; omega)) (fun q => by omega)
      | cas mm vs =>
        right
        obtain ⟨hop, hO, hx, hy⟩ := I.mode.opn_inv (fun q => q) (fun q => q)
        subst hy
        simp only [Tag.opn] at hop
        obtain ⟨_, ⟨g1, ⟨m1, hQ1⟩, hgo1⟩, ⟨g2, ⟨m2, hQ2⟩, hgo2⟩⟩ := hstop
        by_cases hv : VcS n ph = vs
        · have hgo' := hgo1 (wat w0 st sm x 0 d) (by rw [C.cell_st, hx, hv]) C.thaw_st
          rw [C.set_st] at hgo'
          exact I.goM (t' := .mk) (f0' := m1 + 1) C ha hgo' (.inl ⟨m1, rfl, by rw [hb2]; exact hQ1⟩) (by rw [← hv]; exact .reg trivial hO (by omega)) (I.tr.main (fun e he => .inl (bkS_rw (.inl rfl) e he)) C.place) (.inl (by simp only [Tag.rank]; omega)) (fun q => by omega)
        · exact I.goM (x' := x) (y' := 0) (t' := .ld mm) (f0' := m2 + 1) C ha (hgo2 _ (VcS n ph) (by omega) (by rw [C.cell_st, hx]) C.thaw_st) (.inl ⟨m2, rfl, by rw [hb1]; exact hQ2⟩) (by rw [hx]; exact .opn (show VcS n ph ≤ mm by omega) hO) hT1 (.inl (by simp only [Tag.rank]; omega)) (fun q => by omega)
      | mk =>
        right
        obtain ⟨_, g', ⟨m', hQ'⟩, hgo⟩ := hstop
        exact I.goM (x' := x) (y' := y) (t' := .sa) (f0' := m' + 1) C ha (hgo _) (.inl ⟨m', rfl, hQ'⟩) (I.mode.reg_tag trivial trivial) (I.tr.main (fun e he => .inr (by simpa using he)) C.place) (.inl (by simp only [Tag.rank]; omega)) (fun q => by omega)
      | sa =>
        right
        obtain ⟨_, hoff, g', ⟨m', hQ'⟩, hgo1, hgo0⟩ := id hstop
        rcases I.mode.reg_inv I.ph0 trivial with ⟨hy, hx, hall⟩ | ⟨hy, hw⟩
        · subst hy hx
          have hgo' := hgo1 (wat w0 st sm 0 1 d) C.cell_sm C.thaw_sm
          rw [C.set_sm] at hgo'
          exact I.goM (t' := .ld2) (f0' := m' + 1) C ha hgo' (.inl ⟨m', rfl, by rw [deaf_sem]; exact hQ'⟩) (.fin trivial hall) (I.tr.main (fun e he => .inl (bkS_sem (.inr rfl) e he)) C.place) (.inl (by simp only [Tag.rank]; omega)) (fun q => by omega)
        · subst hy
          exact I.goM (x' := x) (y' := 0) (t' := .sa) (f0' := 0) C ha (hgo0 _ C.cell_sm) (.inr ⟨rfl, rfl, a, rfl, hstop⟩) I.mode (I.tr.main (by simp) C.place) (.inr ⟨rfl, by clear hw; omega⟩) (fun _ => hw)
      | ld2 =>
        right
        obtain ⟨hall, hx, hy⟩ := I.mode.fin_inv trivial
        subst hx hy
        obtain ⟨_, g', ⟨m', hQ'⟩, hgo⟩ := hstop
        exact I.goM (x' := 0) (y' := 0) (t' := .acq) (f0' := m' + 1) C ha (hgo _ C.cell_st) (.inl ⟨m', rfl, by rw [hb1]; exact hQ'⟩) (.fin trivial hall) hT1 (.inl (by simp only [Tag.rank]; omega)) (fun q => by omega)
      | acq => exact .inl ⟨I, rfl, ha, hstop⟩
    · right
      have hq := CtxS.deaf_quiet (i := 0) (g := a) hmu
      exact I.goM (x' := x) (y' := y) (t' := t) (f0' := m' + 1) C ha (hgo _ C.ks) (.inl ⟨m', rfl, hQ'⟩) I.mode (I.tr.mute ofEvents_g (fun op hop => (hq op hop).1) (fun op hop => (hq op hop).2) (fun _ q => q) (fun _ q => q) (fun g' q1 q2 => (I.tr.seen g' q1 q2).app _)) (.inr ⟨rfl, by omega⟩) (fun q => by omega)
  · cases hrun
/-- ████ FROM THE CLOSE TO THE END OF Wait. ████ -/
theorem InvS.ends (C : CtxS P Sh Inb st sm qc n w0) (I : InvS P Sh Inb st sm qc mC Fin n w0 t f0 ph fu gs x y T) (d : Nat) (sl : Option (Nat × Nat))
    (cont : ∀ gs' g' d' T' q' sl', gs'.size = n → gs'[0]? = some g' → Fin g' → Hold P (fun l => Sh l ∨ l = .cell st ∨ l = .cell sm) (fun _ => none) 0 T' gs' (wat w0 st sm 0 0 d') q' → Deaf T' 0 = 0 → Ends P Post (crowd gs' (wat w0 st sm 0 0 d') sl') T') :
    Ends P Post (crowd gs (wat w0 st sm x y d) sl) T := by
  have key : ∀ (N1 N2 : Nat) (t : Tag) (f0 : Nat) (ph fu : Nat → Nat) (gs : Array Goroutine) (x y : Int) (T : Trace) (d : Nat) (sl : Option (Nat × Nat)), mu1 n t ph = N1 → mu2 n f0 fu = N2 → InvS P Sh Inb st sm qc mC Fin n w0 t f0 ph fu gs x y T → Ends P Post (crowd gs (wat w0 st sm x y d) sl) T := by
    intro N1
    induction N1 using Nat.strongRecOn with
    | _ N1 ih1 =>
      intro N2
      induction N2 using Nat.strongRecOn with
      | _ N2 ih2 =>
        intro t f0 ph fu gs x y T d sl h1 h2 I
        have hst : ∀ j gj, 0 < j → gs[j]? = some gj → gj.status = .running ∨ gj.status = .finished := fun j gj h0 hj => (I.wk j gj h0 hj).status fun ch hc => ⟨w0, C.keep j ch hc⟩
        obtain ⟨a, ha, hsit⟩ := I.main
        have haw : ∀ g ∈ gs, awake g := by
          intro g hg
          obtain ⟨j, hj, rfl⟩ := Array.mem_iff_getElem.1 hg
          by_cases e : j = 0
          · subst e
            obtain rfl : gs[0] = a := by rw [Array.getElem?_eq_getElem hj] at ha; exact Option.some.inj ha
            rcases hsit with ⟨m, _, h⟩ | ⟨_, _, a₀, e, h⟩
            · exact awake_of (.inl (Qs.running (fun _ _ q => Tag.running P st sm Fin q) h))
            · rw [e]; exact awake_of (.inr (.inl rfl))
          · rcases hst j _ (by omega) (Array.getElem?_eq_getElem hj) with q | q
            · exact awake_of (.inl q)
            · exact awake_of (.inr (.inr q))
        have hsome : ∃ (j : Nat) (g : Goroutine), gs[j]? = some g ∧ g.status = .running := by
          rcases hsit with ⟨m, _, h⟩ | ⟨_, hf, a₀, e, h⟩
          · exact ⟨0, a, ha, Qs.running (fun _ _ q => Tag.running P st sm Fin q) h⟩
          · obtain ⟨j, hj0, hjn, hp⟩ := I.wake hf
            have hjs : j < gs.size := by rw [I.size]; exact hjn
            have hW := I.wk j _ hj0 (Array.getElem?_eq_getElem hjs)
            refine ⟨j, _, Array.getElem?_eq_getElem hjs, ?_⟩
            rcases hst j _ hj0 (Array.getElem?_eq_getElem hjs) with q | q
            · exact q
            · exfalso
              have hne : gs[j].status ≠ .running := by rw [q]; simp
              rcases hW with ⟨_, _, ch, hc, m, wx, _, hG⟩ | ⟨_, m, _, hQ⟩ | ⟨_, m, _, hQ⟩ | ⟨_, m, _, hQ⟩ | ⟨_, m, _, hQ⟩ | ⟨_, m, _, hQ⟩ | ⟨hp1, _⟩
              · cases m with
                | zero => obtain ⟨g₂, h, _⟩ := hG w0 (C.keep j ch hc); exact hne h
                | succ m =>
                  rcases hG with hG | hG
                  · obtain ⟨g₂, h, _⟩ := hG w0 (C.keep j ch hc); exact hne h
                  · exact hne hG.1
              · exact hne (Qs.running (fun _ _ q => q.1) hQ)
              · exact hne (Qs.running (fun _ _ q => q.1) hQ)
              · exact hne (Qs.running (fun _ _ q => q.1) hQ)
              · exact hne (Qs.running (fun _ _ q => q.1) hQ)
              · exact hne (Qs.running (fun _ _ q => q.1) hQ)
              · omega
        obtain ⟨j, g, d', sl', hj, hg, hpick⟩ := crowd_pick (P := P) (w := wat w0 st sm x y d) (sl := sl) haw hsome
        have hpick' : stepT P (crowd gs (wat w0 st sm x y d) sl) = runT P (crowd gs (wat w0 st sm x y d') sl') j := hpick
        have next : (∃ gs' x' y' t' f0' ph' fu' ops, runT P (crowd gs (wat w0 st sm x y d') sl') j = (.next (crowd gs' (wat w0 st sm x' y' d') sl'), ops) ∧ InvS P Sh Inb st sm qc mC Fin n w0 t' f0' ph' fu' gs' x' y' (T ++ ops) ∧ LowS n t' f0' ph' fu' t f0 ph fu) →
            Ends P Post (crowd gs (wat w0 st sm x y d) sl) T := by
          rintro ⟨gs', x', y', t', f0', ph', fu', ops, hr, I', hl⟩
          refine Ends.step (hpick'.trans hr) ?_
          rcases hl with q | ⟨q1, q2⟩
          · exact ih1 _ (by omega) _ t' f0' ph' fu' gs' x' y' _ d' sl' rfl rfl I'
          · exact ih2 _ (by omega) t' f0' ph' fu' gs' x' y' _ d' sl' (by omega) rfl I'
        by_cases e : j = 0
        · subst e
          rcases I.main_step C hj hg d' sl' with D | hN
          · obtain ⟨_, htag, _, hr, hk, g', hfin, hgo⟩ := D
            subst htag
            obtain ⟨hall, hx, hy⟩ := I.mode.fin_inv trivial
            subst hx hy
            have hlt : 0 < gs.size := (Array.getElem?_eq_some_iff.1 hj).1
            have hrt := runT_crowd_go (P := P) (sl := sl') (i := 0) hj (hgo (wat w0 st sm 0 0 d'))
            refine Ends.step (hpick'.trans hrt) ?_
            have hp1 : ∀ i, ph i ≤ 1 := fun i => by
              by_cases e0 : i = 0
              · subst e0; rw [I.ph0]; omega
              · by_cases hi : i < n
                · rw [hall i (by omega) hi]; omega
                · exact I.out i (by omega)
            refine cont _ g' d' _ fu sl' (by simp [I.size]) (Array.getElem?_setIfInBounds_self_of_lt (by simpa using hlt)) hfin ⟨fun i gi hi hgi => ?_, fun _ _ _ h => (by cases h), fun _ _ h => (by cases h), fun i hi => ?_, ?_, fun _ _ h => (by cases h), fun i l hl => by obtain ⟨ch, h, _⟩ := hl; cases h⟩ ?_
            · rw [Array.getElem?_setIfInBounds_ne (fun z => hi z.symm), Array.getElem?_map] at hgi
              obtain ⟨gi', hgi', rfl⟩ := Option.map_eq_some_iff.1 hgi
              rw [woken_of_again (again_of_running (hst i gi' (by omega) hgi') _)]
              have hi' : i < n := by rw [← I.size]; exact (Array.getElem?_eq_some_iff.1 hgi').1
              have hW := I.wk i gi' (by omega) hgi'
              rw [hall i (by omega) hi'] at hW
              refine ⟨by omega, ?_⟩
              rw [Deaf_other T (g' := 0) (fun z => hi z.symm) _ ofEvents_g]
              rcases hW with ⟨h, _⟩ | ⟨h, _⟩ | ⟨h, _⟩ | ⟨h, _⟩ | ⟨h, _⟩ | ⟨h, _⟩ | ⟨_, h⟩
              · cases h
              · cases h
              · cases h
              · cases h
              · cases h
              · cases h
              · exact h
            · simp only [Array.size_setIfInBounds, Array.size_map, I.size] at hi
              have := I.pos
              rw [Deaf_other T (g' := 0) (by omega) _ ofEvents_g]
              exact I.above i hi
            · rw [ofEvents_mark]
              refine ((I.tr.done (St' := StOf fun _ => none) hk hp1).fewer fun i hi => by cases hi).loosen fun i hi => hi.elim
            · rw [Deaf_own, hk]; rfl
          · exact next hN
        · obtain ⟨gs', x', y', f0', ph', fu', ops, h1, h2, h3⟩ := I.worker C (by omega) hj hg d' sl'
          exact next ⟨gs', x', y', t, f0', ph', fu', ops, h1, h2, h3⟩
  exact key _ _ t f0 ph fu gs x y T d sl rfl rfl I
end
end Go.Proofs.Ytfgpnfboolbbbaa
namespace Go.Proofs.Ytfgpnfboolbbbaa
open Go Go.Conc
open Go.ConcN (sumTo upd sumTo_upd upd_ne upd_same le_sumTo sumTo_congr sumTo_le)
theorem setCell_self {w : World} {a : Addr} {v : Value} (h : w.cell? a = some v) (hs : a.spot = none) : w.setCell a v = w := by
  unfold World.setCell
  obtain ⟨heap, x1, x2, x3, x4⟩ := w
  simp only [World.mk.injEq, and_true]
  apply Array.ext_getElem?
  intro k
  simp only [Array.getElem?_modify]
  split
  · rename_i e
    subst e
    unfold World.cell? at h
    simp only at h
    cases e : heap[a.block]? with
    | none => rfl
    | some o =>
      rw [e] at h
      cases o <;> simp only [Option.map_some] <;> (try rfl)
      rw [hs]
      simp only [Option.isSome_none, Bool.false_eq_true, if_false]
      rw [hs] at h
      simp at h
      congr 2
      apply Array.ext_getElem?
      intro m
      simp only [Array.getElem?_setIfInBounds]
      split
      · rename_i e1
        subst e1
        split
        · exact h.symm
        · rename_i e2
          rw [Array.getElem?_eq_none (by omega)]
      · rfl
  · rfl
/-- Who has a chair has not heard of the close; who has none only leaves. -/
def phs (Inb : Nat → Option Chair) (i : Nat) : Nat := if i = 0 then 0 else if (Inb i).isSome = true then 7 else 1
/-- Nobody sits; the group's cells are shunned. -/
def Scene.shut (Z : Scene) (st sm : Addr) (h1 : Z.Hd st.block) (h2 : Z.Hd sm.block) : Scene where
  Sh := fun l => Z.Sh l ∨ l = .cell st ∨ l = .cell sm
  Inb := fun _ => none
  Hd := Z.Hd
  C := Z.C
  place := fun _ _ _ _ h => by cases h
  chan := fun _ _ _ h => by cases h
  shun := fun l h => h.elim (Z.shun l) fun h => h.elim (fun e => ⟨st, e, h1⟩) fun e => ⟨sm, e, h2⟩
  apart := Z.apart
section
variable {P : Program} {Post : Value → World → Prop} {Z : Scene} {st sm : Addr} {qc n m cap k : Nat} {w : World} {Fin : Goroutine → Prop} {a a' : Goroutine}
theorem Run.close (hr : a.status = .running) (hmw : mayWake P a = true) (hr' : a'.status = .running) (hq : w.heap[qc]? = some (.chan cap #[] false k k false))
    (hclose : ∀ d, stepG P true a (w.at d) = .go a' ((w.at d).setChan qc cap #[] true k k false) (closeEvents qc))
    (hne : st ≠ sm) (hspot : st.spot = none ∧ sm.spot = none) (h1 : Z.Hd st.block) (h2 : Z.Hd sm.block) (hp : ¬ Z.Place st ∧ ¬ Z.Place sm) (hns : ¬ Z.Sh (.cell st) ∧ ¬ Z.Sh (.cell sm))
    (hst : w.cell? st = some (.int .u64 ((VcS n (phs Z.Inb) : Int) * K32))) (hsm : w.cell? sm = some (.int .u32 0)) (hz : w.frozen? st = false ∧ w.frozen? sm = false) (hm : VcS n (phs Z.Inb) ≤ m) (hsmall : n < 2147483647)
    (hI0 : Z.Inb 0 = none) (hIn : ∀ i, n ≤ i → Z.Inb i = none)
    (hwakes : ∀ i ch, Z.Inb i = some ch → ∃ (kk : Nat) (z : Value), ch.seat.cases[kk]? = some (rcase qc z) ∧ ∀ g, ch.seat.home g → Qt P false (KS st sm) (AtRelm P st sm) 0 (Go.Conc.served g (commResult ch.seat.cases ch.seat.shape kk z false)))
    (hQ : Qt P true (KS st sm) (AtLd P st sm Fin m) 0 a')
    (cont : ∀ g', Fin g' → Run P Post (Z.shut st sm h1 h2) n 0 0 g' (((w.setChan qc cap #[] true k k false).setCell st (.int .u64 0)).setCell sm (.int .u32 0))) : Run P Post Z n 0 0 a w := by
  intro d gs T q sl hn ha hok H hk
  refine Hold.picked ha hr H fun gs' d' sl' T' q' hsz' ha' H' hdf => ?_
  have hgo := hclose d'
  have hrt := runT_crowd_go (P := P) (sl := sl') (i := 0) ha' hgo
  refine ⟨_, _, hrt, ?_⟩
  let w0 : World := w.setChan qc cap #[] true k k false
  have hw0c : ∀ b, w0.cell? b = w.cell? b := fun b => cell_setChan hq rfl b
  have hw0z : ∀ b, w0.frozen? b = w.frozen? b := fun b => by
    unfold World.frozen?
    simp only [w0, World.setChan, Array.getElem?_setIfInBounds]
    by_cases e : qc = b.block
    · rw [← e, if_pos rfl, hq, if_pos (Array.getElem?_eq_some_iff.1 hq).1]
    · rw [if_neg e]
  have hlt : 0 < gs'.size := (Array.getElem?_eq_some_iff.1 ha').1
  have hgn : gs'.size = n := hsz'.trans hn
  have hd0 : Deaf T' 0 = 0 := hdf.trans hk
  have hplace : ∀ g l, StOf Z.Inb g l → l ≠ .cell st ∧ l ≠ .cell sm := fun g l hl =>
    ⟨fun e => by subst e; exact Scene.not_st hp.1 g hl, fun e => by subst e; exact Scene.not_st hp.2 g hl⟩
  have hquit : w0.heap[qc]? = some (.chan cap #[] true k k false) := heap_setChan_self w hq _ _ _ _ _ _
  have C : CtxS P Z.Sh Z.Inb st sm qc n w0 := by
    refine ⟨hne, hspot, by rw [hw0c, hst]; rfl, by rw [hw0c, hsm]; rfl, by rw [hw0z]; exact hz.1, by rw [hw0z]; exact hz.2, hplace, fun i ch hc b v hv => ?_, H'.wf, fun i ch c hc hs => ?_, ⟨cap, k, hquit⟩, hwakes, hsmall⟩
    · rw [hw0c]; exact H'.keep i ch hc b v hv
    · by_cases e : c = qc
      · exact .inl e
      · obtain ⟨cap', k', h'⟩ := H'.chans i ch c hc hs
        exact .inr ⟨cap', k', by rw [heap_setChan_ne w _ _ _ _ _ _ (Ne.symm e)]; exact h'⟩
  obtain ⟨mq, hQ⟩ := hQ
  have hwk : ∀ i gi, i ≠ 0 → gs'[i]? = some gi → WSit P st sm Z.Inb i (phs Z.Inb i) (if (Z.Inb i).isSome = true then max 1 (q' i) else q' i) (Deaf T' i) (woken P a a' ((w.at d').setChan qc cap #[] true k k false) gi) := by
    intro i gi hi0 hgi
    have hid := H'.idle i gi hi0 hgi
    cases e : Z.Inb i with
    | none =>
      rw [e] at hid
      rw [woken_of_again (again_of_running hid.2.status _)]
      refine .inr (.inr (.inr (.inr (.inr (.inr ⟨by simp [phs, hi0, e], ?_⟩)))))
      simpa using hid.2
    | some ch =>
      rw [e] at hid
      have hi' : (i == 0) = false := beq_false_of_ne hi0
      unfold Idl at hid
      simp only [hi'] at hid
      refine .inl ⟨by simp [phs, hi0, e], hid.2, ch, e, ?_⟩
      rcases hid.1 with ⟨kf, wf, hqf, hG⟩ | ⟨hq0, g₀, g₂, rfl, hat⟩
      · have hst : gi.status = .running := (Sits.status (H'.keep i ch e) (.inl ⟨kf, wf, hqf, hG⟩)).elim (·.1) (fun z => by omega)
        rw [woken_of_again (again_of_running (.inl hst) _)]
        exact ⟨kf, wf, by simp; omega, hG⟩
      · obtain ⟨kk, z, hkk, _⟩ := hwakes i ch e
        have hwok : woken P a a' ((w.at d').setChan qc cap #[] true k k false) (parked g₂ ch.seat.cases ch.seat.shape) = { parked g₂ ch.seat.cases ch.seat.shape with status := .running } := by
          unfold Go.Conc.woken
          rw [if_pos (by rw [hmw, hr']; rfl)]
          exact again_some_closed hkk hquit
        rw [hwok]
        refine ⟨0, w, by simp; omega, ?_⟩
        obtain ⟨_, hf1, hf2, hf3, hhome, es, hes, hstp⟩ := hat
        intro w₁ hK₁
        exact ⟨g₂, rfl, rfl, rfl, rfl, hhome, es, hes, fun w₂ hK₂ => by rw [← hstp w₂ hK₂]; exact stepG_same hf1.symm hf2.symm hf3.symm w₂⟩
  have hwat : (w.at d').setChan qc cap #[] true k k false = wat w0 st sm ((VcS n (phs Z.Inb) : Int) * K32) 0 d' := by
    have e1 : w0.setCell st (.int .u64 ((VcS n (phs Z.Inb) : Int) * K32)) = w0 := setCell_self (by rw [hw0c]; exact hst) hspot.1
    have e2 : w0.setCell sm (.int .u32 0) = w0 := setCell_self (by rw [hw0c]; exact hsm) hspot.2
    unfold wat
    rw [e1, e2]
    rfl
  have hclo : ∀ op ∈ MemOp.ofEvents 0 a.frame.fn a.frame.place (closeEvents qc), op.g = 0 := ofEvents_g
  have hdc : Deaf (T' ++ MemOp.ofEvents 0 a.frame.fn a.frame.place (closeEvents qc)) 0 = 0 := by
    rw [Deaf_own, hd0]; rfl
  have I : InvS P Z.Sh Z.Inb st sm qc (T'.size + 1) Fin n w0 (.ld m) (mq + 1) (phs Z.Inb) (fun i => if (Z.Inb i).isSome = true then max 1 (q' i) else q' i)
      ((gs'.map (woken P a a' ((w.at d').setChan qc cap #[] true k k false))).setIfInBounds 0 a') ((VcS n (phs Z.Inb) : Int) * K32) 0 (T' ++ MemOp.ofEvents 0 a.frame.fn a.frame.place (closeEvents qc)) := by
    refine ⟨by simp [hgn], by omega, ⟨a', Array.getElem?_setIfInBounds_self_of_lt (by simpa using hlt), .inl ⟨mq, rfl, by rw [hdc]; exact hQ⟩⟩, fun i gi hi0 hgi => ?_, rfl, fun i hi => ?_, .opn hm fun i hi0 hin => ?_, fun z => by omega, ?_, fun j hj => ?_⟩
    · rw [Array.getElem?_setIfInBounds_ne (by omega), Array.getElem?_map] at hgi
      obtain ⟨gi', hgi', rfl⟩ := Option.map_eq_some_iff.1 hgi
      rw [Deaf_other T' (g' := 0) (by omega) _ hclo]
      exact hwk i gi' (by omega) hgi'
    · simp only [phs, hIn i hi]
      split <;> simp
    · simp only [phs]
      split
      · omega
      · split <;> simp
    · refine TrS.start H'.past hd0 (fun g l hl => by obtain ⟨ch, _, b, v, e, _⟩ := hl; exact ⟨b, e⟩) (fun l hl => by obtain ⟨b, e, _⟩ := Z.shun l hl; exact ⟨b, e⟩) (fun g hg => by simp [phs, hg.2, hg.1]) (fun g hg => ?_) (fun g hg => ?_) hplace hns
      · simp only [phs] at hg
        split at hg
        · cases hg
        · split at hg
          · assumption
          · cases hg
      · simp only [phs] at hg
        split at hg
        · omega
        · split at hg <;> omega
    · rw [Deaf_other T' (g' := 0) (by omega) _ hclo]
      exact H'.above j (by rw [hgn]; exact hj)
  rw [hwat] at I ⊢
  refine I.ends C d' sl' fun gs2 g' d2 T2 q2 sl2 hs2 hg2 hfin H2 hd2 => ?_
  have hok2 : WOk P Z (w0.at d2) := WOk.at (WOk.setChan ⟨hok.obj, hok.hid, hok.chan⟩ hq rfl _ _ _ _ _ _) d2
  have hok3 := (hok2.setCell st (.int .u64 0)).setCell sm (.int .u32 0)
  exact cont g' hfin d2 gs2 T2 q2 sl2 hs2 hg2 ⟨hok3.obj, hok3.hid, hok3.chan⟩ H2 hd2
end
end Go.Proofs.Ytfgpnfboolbbbaa
