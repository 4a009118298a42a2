/-
  Run: the item is handed to the worker, the worker does it and answers.
-/
import Derived.Test.YtfgpnfboolbbbaaBbFst
namespace Go.Proofs.Ytfgpnfboolbbbaa
open Go Go.Conc Go.RowKit
open Go.ConcN (upd upd_ne upd_same)
def ownDrop (own : Nat → Nat × Nat) (t : Nat × Nat) (k : Nat) : Nat × Nat := if own k = t then (0, 0) else own k
theorem ownDrop_ne {own : Nat → Nat × Nat} {t u : Nat × Nat} {k : Nat} (h : own k = u) (hne : u ≠ t) : ownDrop own t k = u := by
  unfold ownDrop
  rw [h, if_neg hne]
section
variable {Z Z' : Scene} {n : Nat} {hd hd' : Option (Nat × Chair)} {w w' : World} {s : Sy} {lk : Int} {e : Ent}
theorem Rep.running (h : Rep Z n hd w s lk) (he : e ∈ s.ents) : s.stopped = false := by
  cases q : s.stopped with
  | false => rfl
  | true => rw [h.stop q] at he; cases he
/-- An item's blocks are let go. -/
theorem Rep.release (h : Rep Z n hd w s lk) {g t : Nat} (ht : ∀ e ∈ s.ents, e.gi = g → ∀ i ∈ e.items, i.t ≠ t) : Rep Z n hd w { s with own := ownDrop s.own (g, 5 + t) } lk := by
  have hn : ∀ k u v, s.own k = (u, v) → v < 5 → ownDrop s.own (g, 5 + t) k = (u, v) := fun k u v ho hv => ownDrop_ne ho (fun q => by cases q; omega)
  refine ⟨h.sys, h.map, fun e he => ?_, h.gis, h.gin, hn _ _ _ h.oS (by omega), hn _ _ _ h.oq (by omega), hn _ _ _ h.om (by omega), h.opn, h.hS, h.hE, fun k hk => h.vis k ?_, h.cE, h.stop, h.inb, h.shun, h.hdk, h.pos, fun k hk => by show ownDrop _ _ k = _; unfold ownDrop; rw [h.fresh k hk]; split <;> rfl⟩
  · have hE := h.ents e he
    refine ⟨hE.blk, hE.row.mono fun k _ ho => hn _ _ _ ho (by omega), fun i hi => (hE.its i hi).mono fun k _ ho => ownDrop_ne ho fun q => ?_, hE.tks, hE.wk, hE.dn, hn _ _ _ hE.ob (by omega), hn _ _ _ hE.ow (by omega), hn _ _ _ hE.od (by omega), hE.pos⟩
    obtain ⟨h1, h2⟩ := Prod.mk.inj q
    exact ht e he h1 i hi (by omega)
  · have hk' : 4 ≤ (ownDrop s.own (g, 5 + t) k).2 := hk
    unfold ownDrop at hk'
    split at hk'
    · simp at hk'
    · exact hk'
theorem Sy.setE_self (h : Rep Z n hd w s lk) (he : e ∈ s.ents) : s.setE e s.own = s := by
  have : s.ents.map (fun x => if x.gi = e.gi then e else x) = s.ents := by
    conv => rhs; rw [← List.map_id s.ents]
    refine List.map_congr_left fun x hx => ?_
    by_cases q : x.gi = e.gi
    · rw [if_pos q, nodup_gi h.gis hx he q]; rfl
    · rw [if_neg q]; rfl
  unfold Sy.setE
  rw [this]
theorem kept_chan (w : World) (c m : Nat) : Kept (· = c) w (w.setChan c 0 #[] false m m false) :=
  ⟨rfl, rfl, rfl, by simp [World.setChan], fun k _ hk => by simp only [World.setChan, Array.getElem?_setIfInBounds]; rw [if_neg (Ne.symm hk)]⟩
theorem Rep.passed (h : Rep Z n hd w s lk) (he : e ∈ s.ents) {c : Nat} (hc : c = e.wk ∨ c = e.dn) (m : Nat) : Rep Z n hd (w.setChan c 0 #[] false m m false) s lk := by
  have hk := kept_chan w c m
  have hE := h.ents e he
  have hoc : s.own c = (e.gi, 2) ∨ s.own c = (e.gi, 3) := hc.imp (fun q => by rw [q]; exact hE.ow) (fun q => by rw [q]; exact hE.od)
  have hlt : c < w.heap.size := hc.elim (fun q => by rw [q]; exact hE.wk.lt) (fun q => by rw [q]; exact hE.dn.lt)
  have hne : ∀ k t, s.own k = (e.gi, t) → t ≠ 2 → t ≠ 3 → ¬ k = c := fun k t ho h2 h3 q => by
    rw [q] at ho
    rcases hoc with x | x <;> rw [x] at ho <;> cases ho <;> omega
  have hself : Opn (w.setChan c 0 #[] false m m false) c := ⟨m, by simp [World.setChan, hlt]⟩
  have hopn : ∀ d, Opn w d → Opn (w.setChan c 0 #[] false m m false) d := fun d hd => by
    by_cases q : d = c
    · rw [q]; exact hself
    · exact hd.keep hk q
  have := h.turnE he rfl hk (fun k _ hf => by rw [hf]; rcases hoc with x | x <;> rw [x]) (fun _ _ => rfl) h.vis (e' := e)
    ⟨hE.blk.keep hk (hne _ _ hE.ob (by omega) (by omega)), hE.row.keep hk fun k _ ho q => hne k _ ho (by omega) (by omega) q, fun i hi => (hE.its i hi).keep hk fun k _ ho q => hne k _ ho (by omega) (by omega) q, hE.tks, hopn _ hE.wk, hopn _ hE.dn, hE.ob, hE.ow, hE.od, hE.pos⟩ (fun k hk2 => h.fresh k (Nat.le_trans hk.size hk2))
  rwa [Sy.setE_self h he] at this
/-- Others sit. -/
theorem Rep.seat (h : Rep Z n hd w s lk) (h1 : Z'.Hd = Z.Hd) (h2 : Z'.C = Z.C) (h3 : Z'.Sh = Z.Sh) (hi : Z'.Inb = s.inb hd') (hk : ∀ j d, hd' = some (j, d) → ∃ e ∈ s.ents, e.gi = j ∧ DCh e d) : Rep Z' n hd' w s lk :=
  ⟨h.sys, h.map, h.ents, h.gis, h.gin, h.oS, h.oq, h.om, fun q => ⟨(h.opn q).1, by rw [h2]; exact (h.opn q).2⟩, by rw [h1]; exact h.hS, fun e he => by rw [h1]; exact h.hE e he, fun k q => by rw [h1, h2]; exact h.vis k q, fun e he => by rw [h2]; exact h.cE e he, h.stop, hi, fun a q => h.shun a (by rw [← h3]; exact q), hk, h.pos, h.fresh⟩
/-- The worker's chair, by what the System holds. -/
theorem Rep.chairK (h : Rep Z n hd w s lk) (he : e ∈ s.ents) : (s.wch e).K w := fun a v hv => by
  rcases wVal_of hv with ⟨rfl, rfl⟩ | ⟨rfl, rfl⟩
  · exact h.cell 4
  · exact h.cellE he 1
theorem Rep.chairSh (h : Rep Z n hd w s lk) (he : e ∈ s.ents) : ∀ l, (s.wch e).St l → ¬ Z.Sh l := by
  rintro l ⟨a, v, rfl, hv⟩
  rcases wVal_of hv with ⟨rfl, rfl⟩ | ⟨rfl, rfl⟩
  · exact h.nsh 4 (.inr (by decide))
  · exact h.nshE he 1
theorem Rep.chairHd (h : Rep Z n hd w s lk) (he : e ∈ s.ents) : ∀ a v, (s.wch e).val a = some v → Z.Hd a.block := by
  intro a v hv
  rcases wVal_of hv with ⟨rfl, rfl⟩ | ⟨rfl, rfl⟩
  · exact h.hS
  · exact h.hE e he
theorem Rep.chairC (h : Rep Z n hd w s lk) (he : e ∈ s.ents) : ∀ c, (s.wch e).seat.has c → Z.C c := by
  intro c hc
  rcases wSeat_has hc with rfl | rfl
  · exact (h.cE e he).1
  · exact (h.opn (h.running he)).2
theorem Rep.chairO (h : Rep Z n hd w s lk) (he : e ∈ s.ents) : ∀ c, (s.wch e).seat.has c → ∃ cap k, w.heap[c]? = some (.chan cap #[] false k k false) := by
  intro c hc
  rcases wSeat_has hc with rfl | rfl
  · obtain ⟨k, q⟩ := (h.ents e he).wk
    exact ⟨0, k, q⟩
  · obtain ⟨k, q⟩ := (h.opn (h.running he)).1
    exact ⟨0, k, q⟩
theorem Rep.wk_qc (h : Rep Z n hd w s lk) (he : e ∈ s.ents) : e.wk ≠ s.qc := fun q => by
  have h1 := (h.ents e he).ow
  rw [q, h.oq] at h1
  have := (h.ents e he).pos
  have := (Prod.mk.inj h1).1
  omega
theorem Rep.chairWf (h : Rep Z n hd w s lk) (he : e ∈ s.ents) : (s.wch e).seat.Wf := wSeat_wf (h.wk_qc he)
theorem Rep.only (h : Rep Z n hd w s lk) {x y : Ent} (hx : x ∈ s.ents) (hy : y ∈ s.ents) (hh : (s.wch y).seat.has x.wk) : y = x := by
  rcases wSeat_has hh with q | q
  · have h1 := (h.ents x hx).ow
    have q' : x.wk = y.wk := q
    rw [q', (h.ents y hy).ow] at h1
    exact nodup_gi h.gis hy hx (Prod.mk.inj h1).1
  · exact absurd q (h.wk_qc hx)
theorem Rep.notdn (h : Rep Z n hd w s lk) {x y : Ent} (hx : x ∈ s.ents) (hy : y ∈ s.ents) : ¬ (s.wch y).seat.has x.dn := fun hh => by
  rcases wSeat_has hh with q | q
  · have h1 := (h.ents x hx).od
    have q' : x.dn = y.wk := q
    rw [q', (h.ents y hy).ow] at h1
    exact absurd (Prod.mk.inj h1).2 (by decide)
  · have h1 := (h.ents x hx).od
    have q' : x.dn = s.qc := q
    rw [q', h.oq] at h1
    exact absurd (Prod.mk.inj h1).2 (by decide)
end
/-! ## Goroutine 0's seat -/
def dVal (c : Core1) (a : Addr) : Option Value := if a = ⟨c.b, 2, none⟩ then some (.chan (some c.dn)) else none
noncomputable def dSeat (Post : Value → World → Prop) (c : Core1) (fr : Frame) (cs : List Frame) : Seat :=
  Seat.one c.dn (.int .i64 0) false fun g => ∀ Z n w v, Run Try.prog Post Z n 0 0 (G (fr.finish (.bool true)) cs) w → Run Try.prog Post Z n 0 0 (Go.Conc.served g v) w
noncomputable def dChair (Post : Value → World → Prop) (c : Core1) (fr : Frame) (cs : List Frame) : Chair := ⟨dSeat Post c fr cs, dVal c, c.b + 1⟩
theorem dVal_of {c : Core1} {a : Addr} {v : Value} (h : dVal c a = some v) : a = ⟨c.b, 2, none⟩ ∧ v = .chan (some c.dn) := by
  unfold dVal at h
  split at h
  · exact ⟨by assumption, (Option.some.inj h).symm⟩
  · cases h
theorem dCh (Post : Value → World → Prop) (e : Ent) (fr : Frame) (cs : List Frame) : DCh e (dChair Post e.toCore1 fr cs) := ⟨fun _ _ h => dVal_of h, fun _ h => Seat.one_has.1 h⟩
end Go.Proofs.Ytfgpnfboolbbbaa
namespace Go.Proofs.Ytfgpnfboolbbbaa
open Go Go.Conc Go.RowKit
open Go.ConcN (upd upd_ne upd_same)
theorem snd_ne {a b c d : Nat} (h : (a, b) = (c, d)) (hn : b ≠ d) : False := hn (congrArg Prod.snd h)
theorem Run.giveW {P : Program} {Post : Value → World → Prop} {Z : Scene} {n h : Nat} {a a₂ : Goroutine} {w : World} {j c kk m : Nat} {chj ch : Chair} {v z z' : Value} (hjh : j ≠ h) (hjn : j < n) (hj : Z.Inb j = some chj) (hk : chj.seat.cases[kk]? = some (rcase c z))
    (honly : ∀ x chx, x ≠ j → Z.Inb x = some chx → ¬ chx.seat.has c) (hrun : a.status = .running) (hsend : ∀ w : World, stepG P (h == 0) a w = .comm a₂ #[scase c v z'] true .send w #[])
    (hc : w.heap[c]? = some (.chan 0 #[] false m m false)) (hwf : ch.seat.Wf) (hch : ∀ c' : Nat, ch.seat.has c' → ∃ cap k, w.heap[c']? = some (.chan cap #[] false k k false)) (hK : ch.K w) (hap : ∀ l, ch.St l → ¬ Z.Sh l)
    (hway : Way P (h == 0) ch (Go.Conc.served a₂ undef)) (hp : ∀ a v, ch.val a = some v → Z.Hd a.block) (hcc : ∀ c, ch.seat.has c → Z.C c)
    (H : ∀ g₂, chj.seat.home g₂ → Run P Post ((Z.sit h ch hp hcc).rise j) n j 0 (Go.Conc.served g₂ (commResult chj.seat.cases chj.seat.shape kk v true)) (w.setChan c 0 #[] false (m + 1) (m + 1) false)) : Run P Post Z n h 0 a w := by
  obtain ⟨nd, hs⟩ := hway.sits
  exact Run.give hjh hjn hj hk honly hrun hsend hc hwf hch hK hap hs hp hcc H
section
variable {Z : Scene} {n : Nat} {w : World} {s : Sy} {e : Ent} {Post : Value → World → Prop} {c : Frame} {cs : List Frame}
set_option maxRecDepth 50000 in
set_option maxHeartbeats 4000000 in
theorem run_none {h : Nat} {hd : Option (Nat × Chair)} (R : Rep Z n hd w s 0) (id : Int) (h0 : s.len id = 0) (H : ∀ w', Rep Z n hd w' s 0 → Kept (· = s.S) w w' → Run Try.prog Post Z n h 0 (G (c.finish (.bool false)) cs) w') :
    Run Try.prog Post Z n h 0 (G ((base 13).at { tmps := #[.pointer (some ⟨s.S, 0, none⟩), .int .i64 id] ++ Array.replicate (Try.f13.ntmps - 2) undef, defers := [] } [.code (Try.f13.body.getD .skip)]) (c :: cs)) w := by
  simp only [Try.ntmps13]
  try simp only [Act.put, Act.eval, nrmL, Nat.reduceAdd, Nat.reduceSub]
  simp only [Try.f13, Option.getD_some]
  repeat (first
    | refine Run.auto rfl ?_
    | ((first | (refine Run.quietop rfl rfl rfl (by decide) ?_ ?_; (focus (intro w₁; simp [go_sem]; done)); intro w₁ K hK; go_simp; refine hK _ ?_; clear hK K w₁) | (refine Run.lookq theEnv rfl rfl rfl (by decide) rfl (fun _ _ q => by cases q) ?_; apply Exists.intro; apply And.intro; (focus (intro w; apply run_eq_of'; intro K hK; go_simp; exact hK))) | (refine Run.len theEnv rfl rfl (by decide) rfl rfl (by kernel_rfl) ?_) | (refine Run.not rfl rfl ?_)); try simp only [Act.put, Act.eval, nrmL, Nat.reduceAdd])
    | (refine Run.ctl (fun _ => stepG_region) rfl ?_; simp only [nrmL, Nat.reduceAdd, Nat.zero_add, List.range, List.range.loop])
    | (refine Run.ctl (fun _ => stepG_cond (t := true) rfl) rfl ?_; simp only [if_true])
    | (refine Run.ctl (fun _ => stepG_cond (t := false) rfl) rfl ?_; simp only [Bool.false_eq_true, if_false])
    | refine Run.ctl (fun _ => stepG_ret') rfl ?_
    | refine Run.ctl (fun _ => stepG_end) rfl ?_)
  refine Run.enter rfl rfl (by decide) rfl Try.func30 (by kernel_rfl) rfl ?_
  simp only [Act.eval, nrmL, Nat.reduceAdd]
  refine first_none R id h0 fun w' R' k' => ?_
  rw [Frame.finish_at]
  try simp only [Act.put, Act.eval, nrmL, Nat.reduceAdd]
  repeat (first
    | refine Run.auto rfl ?_
    | ((first | (refine Run.quietop rfl rfl rfl (by decide) ?_ ?_; (focus (intro w₁; simp [go_sem]; done)); intro w₁ K hK; go_simp; refine hK _ ?_; clear hK K w₁) | (refine Run.lookq theEnv rfl rfl rfl (by decide) rfl (fun _ _ q => by cases q) ?_; apply Exists.intro; apply And.intro; (focus (intro w; apply run_eq_of'; intro K hK; go_simp; exact hK))) | (refine Run.len theEnv rfl rfl (by decide) rfl rfl (by kernel_rfl) ?_) | (refine Run.not rfl rfl ?_)); try simp only [Act.put, Act.eval, nrmL, Nat.reduceAdd])
    | (refine Run.ctl (fun _ => stepG_region) rfl ?_; simp only [nrmL, Nat.reduceAdd, Nat.zero_add, List.range, List.range.loop])
    | (refine Run.ctl (fun _ => stepG_cond (t := true) rfl) rfl ?_; simp only [if_true])
    | (refine Run.ctl (fun _ => stepG_cond (t := false) rfl) rfl ?_; simp only [Bool.false_eq_true, if_false])
    | refine Run.ctl (fun _ => stepG_ret') rfl ?_
    | refine Run.ctl (fun _ => stepG_end) rfl ?_)
  refine Run.leave1 rfl rfl Try.func13 (by rfl) ?_
  try rw [Frame.finish_at]
  try simp only [Act.put, Act.eval, nrmL, Nat.reduceAdd]
  exact H _ R' k'
/-- What is left behind the pop. -/
def Sy.popped (s : Sy) (e : Ent) (i : It) : Sy := { s.setE e.pop s.own with own := ownDrop s.own (e.gi, 5 + i.t) }
theorem Rep.popped {hd : Option (Nat × Chair)} (R : Rep Z n hd w (s.setE e.pop s.own) 0) (hn : (s.ents.map (·.gi)).Nodup) (he : e ∈ s.ents) {i : It} {rest : List It} (hi : e.items = i :: rest) (ht : (e.items.map (·.t)).Nodup) : Rep Z n hd w (s.popped e i) 0 := by
  refine R.release fun y hy hg x hx q => ?_
  rcases Sy.setE_mem hy with rfl | ⟨_, h2⟩
  · rw [hi] at ht
    have hx' : x ∈ rest := by simpa [Ent.pop, hi] using hx
    exact (List.nodup_cons.1 ht).1 (List.mem_map.2 ⟨x, hx', q⟩)
  · exact h2 hg
set_option maxRecDepth 50000 in
set_option maxHeartbeats 4000000 in
theorem run_some (R : Rep Z n none w s 0) (id : Int) (he : s.ent id = some e) {i : It} {rest : List It} (hi : e.items = i :: rest)
    {cf : FuncId} {fn : Func} {body : Code} {caps : Array Value} (hdo : s.fdo = .func (.func cf) #[] caps) (hf : Try.prog.funcs[cf]? = some fn) (hname : (fn.name == "runtime.NumGoroutine") = false) (hb : fn.body = some body)
    (Q : Scene → Nat → Sy → World → Prop)
    (HC : ∀ (Z1 : Scene) (w1 : World) (d : Chair) (c0 : Frame), Z1.Hd = Z.Hd → Z1.C = Z.C → Z1.Sh = Z.Sh → Rep Z1 n (some (e.gi, d)) w1 (s.popped e i) 0 → Kept (fun k => s.own k ≠ (0, 0)) w w1 → SegV w1 (fun k => s.own k = (e.gi, 5 + i.t)) 5 1 i.A i.bs.length i.c (bvs i.bs) →
      (∀ Z2 n2 s2 w2, Rep Z2 n2 (some (e.gi, d)) w2 s2 0 → s2.S = s.S → s2.qc = s.qc → (∃ e2 ∈ s2.ents, e2.toCore1 = e.toCore1) → Q Z2 n2 s2 w2 → Run Try.prog Post Z2 n2 e.gi 0 (G (c0.finish (.tuple #[])) [botW]) w2) →
      Run Try.prog Post Z1 n e.gi 0 (G ((base cf).at { tmps := (#[.int .i64 e.id, i.val] ++ caps) ++ Array.replicate (fn.ntmps - (#[.int .i64 e.id, i.val] ++ caps).size) undef, defers := [] } [.code body]) [c0, botW]) w1)
    (H : ∀ Z2 n2 s2 w2 Z3 w3, Q Z2 n2 s2 w2 → Z3.Hd = Z2.Hd → Z3.C = Z2.C → Z3.Sh = Z2.Sh → Rep Z3 n2 none w3 s2 0 → Kept (fun k => s2.own k ≠ (0, 0)) w2 w3 → Run Try.prog Post Z3 n2 0 0 (G (c.finish (.bool true)) cs) w3) :
    Run Try.prog Post Z n 0 0 (G ((base 13).at { tmps := #[.pointer (some ⟨s.S, 0, none⟩), .int .i64 id] ++ Array.replicate (Try.f13.ntmps - 2) undef, defers := [] } [.code (Try.f13.body.getD .skip)]) (c :: cs)) w := by
  have hx := (Sy.ent_some he).1
  have hE := R.ents e hx
  simp only [Try.ntmps13]
  try simp only [Act.put, Act.eval, nrmL, Nat.reduceAdd, Nat.reduceSub]
  simp only [Try.f13, Option.getD_some]
  repeat (first
    | refine Run.auto rfl ?_
    | ((first | (refine Run.quietop rfl rfl rfl (by decide) ?_ ?_; (focus (intro w₁; simp [go_sem]; done)); intro w₁ K hK; go_simp; refine hK _ ?_; clear hK K w₁) | (refine Run.lookq theEnv rfl rfl rfl (by decide) rfl (fun _ _ q => by cases q) ?_; apply Exists.intro; apply And.intro; (focus (intro w; apply run_eq_of'; intro K hK; go_simp; exact hK))) | (refine Run.len theEnv rfl rfl (by decide) rfl rfl (by kernel_rfl) ?_) | (refine Run.not rfl rfl ?_)); try simp only [Act.put, Act.eval, nrmL, Nat.reduceAdd])
    | (refine Run.ctl (fun _ => stepG_region) rfl ?_; simp only [nrmL, Nat.reduceAdd, Nat.zero_add, List.range, List.range.loop])
    | (refine Run.ctl (fun _ => stepG_cond (t := true) rfl) rfl ?_; simp only [if_true])
    | (refine Run.ctl (fun _ => stepG_cond (t := false) rfl) rfl ?_; simp only [Bool.false_eq_true, if_false])
    | refine Run.ctl (fun _ => stepG_ret') rfl ?_
    | refine Run.ctl (fun _ => stepG_end) rfl ?_)
  refine Run.enter rfl rfl (by decide) rfl Try.func30 (by kernel_rfl) rfl ?_
  simp only [Act.eval, nrmL, Nat.reduceAdd]
  refine first_some R id he hi fun w1 R1 k1 => ?_
  replace R1 := R1.popped R.gis hx hi hE.tks
  have hx1 : e.pop ∈ (s.popped e i).ents := Sy.setE_has (own' := s.own) hx rfl
  have k1' : Kept (fun k => s.own k ≠ (0, 0)) w w1 := k1.mono fun k _ hk q => by
    rcases hk with rfl | rfl
    · rw [R.oS] at q; exact snd_ne q (by decide)
    · rw [hE.ob] at q; exact snd_ne q (by decide)
  have hs1 : SegV w1 (fun k => s.own k = (e.gi, 5 + i.t)) 5 1 i.A i.bs.length i.c (bvs i.bs) := (hE.its i (by rw [hi]; exact .head _)).keep k1 fun k _ ho hk => by
    rcases hk with rfl | rfl
    · rw [R.oS] at ho; exact snd_ne ho (by omega)
    · rw [hE.ob] at ho; exact snd_ne ho (by omega)
  rw [Frame.finish_at]
  unfold ptr
  try simp only [Act.put, Act.eval, nrmL, Nat.reduceAdd]
  repeat (first
    | refine Run.auto rfl ?_
    | ((first | (refine Run.quietop rfl rfl rfl (by decide) ?_ ?_; (focus (intro w₁; simp [go_sem]; done)); intro w₁ K hK; go_simp; refine hK _ ?_; clear hK K w₁) | (refine Run.lookq theEnv rfl rfl rfl (by decide) rfl (fun _ _ q => by cases q) ?_; apply Exists.intro; apply And.intro; (focus (intro w; apply run_eq_of'; intro K hK; go_simp; exact hK))) | (refine Run.len theEnv rfl rfl (by decide) rfl rfl (by kernel_rfl) ?_) | (refine Run.not rfl rfl ?_)); try simp only [Act.put, Act.eval, nrmL, Nat.reduceAdd])
    | (refine Run.ctl (fun _ => stepG_region) rfl ?_; simp only [nrmL, Nat.reduceAdd, Nat.zero_add, List.range, List.range.loop])
    | (refine Run.ctl (fun _ => stepG_cond (t := true) rfl) rfl ?_; simp only [if_true])
    | (refine Run.ctl (fun _ => stepG_cond (t := false) rfl) rfl ?_; simp only [Bool.false_eq_true, if_false])
    | refine Run.ctl (fun _ => stepG_ret') rfl ?_
    | refine Run.ctl (fun _ => stepG_end) rfl ?_)
  refine Run.ld (a := ⟨e.b, 1, none⟩) (v := .chan (some e.wk)) rfl rfl (by decide) (R1.cellE hx1 1) (R1.nshE hx1 1) (fun w₁ hld => ⟨by go_simp, by simp [go_sem, hld]⟩) ?_
  try simp only [Act.put, Act.eval, nrmL, Nat.reduceAdd]
  repeat (first
    | refine Run.auto rfl ?_
    | ((first | (refine Run.quietop rfl rfl rfl (by decide) ?_ ?_; (focus (intro w₁; simp [go_sem]; done)); intro w₁ K hK; go_simp; refine hK _ ?_; clear hK K w₁) | (refine Run.lookq theEnv rfl rfl rfl (by decide) rfl (fun _ _ q => by cases q) ?_; apply Exists.intro; apply And.intro; (focus (intro w; apply run_eq_of'; intro K hK; go_simp; exact hK))) | (refine Run.len theEnv rfl rfl (by decide) rfl rfl (by kernel_rfl) ?_) | (refine Run.not rfl rfl ?_)); try simp only [Act.put, Act.eval, nrmL, Nat.reduceAdd])
    | (refine Run.ctl (fun _ => stepG_region) rfl ?_; simp only [nrmL, Nat.reduceAdd, Nat.zero_add, List.range, List.range.loop])
    | (refine Run.ctl (fun _ => stepG_cond (t := true) rfl) rfl ?_; simp only [if_true])
    | (refine Run.ctl (fun _ => stepG_cond (t := false) rfl) rfl ?_; simp only [Bool.false_eq_true, if_false])
    | refine Run.ctl (fun _ => stepG_ret') rfl ?_
    | refine Run.ctl (fun _ => stepG_end) rfl ?_)
  obtain ⟨m, hm⟩ := (R1.ents e.pop hx1).wk
  replace hm : w1.heap[e.wk]? = some (.chan 0 #[] false m m false) := hm
  have hin : Z.Inb e.gi = some (s.wch e) := by rw [R.inb]; exact Sy.seats_mem R.gis hx
  have hgi : e.gi ≠ 0 := by have := hE.pos; omega
  have hD := dCh Post e c cs
  have hp0 : ∀ a v, (dChair Post e.toCore1 c cs).val a = some v → Z.Hd a.block := by
    intro a v hv
    obtain ⟨rfl, rfl⟩ := hD.val a v hv
    exact R1.hE e.pop hx1
  have hc0 : ∀ c', (dChair Post e.toCore1 c cs).seat.has c' → Z.C c' := by
    intro c' hc'
    rw [hD.has c' hc']
    exact (R1.cE e.pop hx1).2
  refine Run.giveW (j := e.gi) (c := e.wk) (kk := 0) (m := m) (chj := s.wch e) (ch := dChair Post e.toCore1 c cs) (v := i.val) (z := .slice none 0 0) (z' := .tuple #[]) hgi (R.gin e hx) hin rfl ?_ rfl (send_step rfl rfl (by decide) (fun w => by simp [execOp, scase, Act.eval]) (fun w => by simp [go_sem, execOp, Act.eval]) true)
    hm (Seat.one_wf _ _ _ _) ?_ ?_ ?_ ?_ hp0 hc0 ?_
  · intro x chx hxe hI hh
    rw [R.inb] at hI
    obtain ⟨y, hy, hyg, rfl⟩ := Sy.seats_of hI
    have := R.only hx hy hh
    subst this
    exact hxe hyg.symm
  · intro c' hc'
    rw [hD.has c' hc']
    obtain ⟨k, q⟩ := (R1.ents e.pop hx1).dn
    exact ⟨0, k, q⟩
  · intro a v hv
    obtain ⟨rfl, rfl⟩ := hD.val a v hv
    exact R1.cellE hx1 2
  · rintro l ⟨a, v, rfl, hv⟩
    obtain ⟨rfl, rfl⟩ := hD.val a v hv
    exact R1.nshE hx1 2
  · rw [show ∀ (fr : Frame) (cs : List Frame) (v : Value), Go.Conc.served (G fr cs) v = G (fr.finish v) cs from fun _ _ _ => rfl, Frame.finish_at]
    try simp only [Act.put, Act.eval, nrmL, Nat.reduceAdd]
    repeat (first
      | refine Way.auto rfl ?_
      | ((first | (refine Way.quietop rfl rfl rfl (by decide) (fun _ => by simp [go_sem, *]) ?_; apply Exists.intro; apply And.intro; (focus (intro w; apply run_eq_of'; intro K hK; go_simp; exact hK))) | (refine Way.lookq theEnv rfl rfl rfl (by decide) rfl (fun _ _ q => by cases q) ?_; apply Exists.intro; apply And.intro; (focus (intro w; apply run_eq_of'; intro K hK; go_simp; exact hK))) | (refine Way.len theEnv rfl rfl (by decide) rfl rfl (by kernel_rfl) ?_) | (refine Way.not rfl rfl ?_)); try simp only [Act.put, Act.eval, nrmL, Nat.reduceAdd])
      | (refine Way.ctl (fun _ => stepG_region) rfl ?_; simp only [nrmL, Nat.reduceAdd, Nat.zero_add, List.range, List.range.loop])
      | (refine Way.ctl (fun _ => stepG_cond (t := true) rfl) rfl ?_; simp only [if_true])
      | (refine Way.ctl (fun _ => stepG_cond (t := false) rfl) rfl ?_; simp only [Bool.false_eq_true, if_false])
      | refine Way.ctl (fun _ => stepG_ret') rfl ?_
      | refine Way.ctl (fun _ => stepG_end) rfl ?_)
    refine Way.ld (a := ⟨e.b, 2, none⟩) (v := .chan (some e.dn)) rfl rfl (by decide) ((show dVal e.toCore1 ⟨e.b, 2, none⟩ = _ by simp [dVal])) (Nat.lt_succ_self e.b) (fun w₁ hld => ⟨by go_simp, by simp [go_sem, hld]⟩) ?_
    try simp only [Act.put, Act.eval, nrmL, Nat.reduceAdd]
    repeat (first
      | refine Way.auto rfl ?_
      | ((first | (refine Way.quietop rfl rfl rfl (by decide) (fun _ => by simp [go_sem, *]) ?_; apply Exists.intro; apply And.intro; (focus (intro w; apply run_eq_of'; intro K hK; go_simp; exact hK))) | (refine Way.lookq theEnv rfl rfl rfl (by decide) rfl (fun _ _ q => by cases q) ?_; apply Exists.intro; apply And.intro; (focus (intro w; apply run_eq_of'; intro K hK; go_simp; exact hK))) | (refine Way.len theEnv rfl rfl (by decide) rfl rfl (by kernel_rfl) ?_) | (refine Way.not rfl rfl ?_)); try simp only [Act.put, Act.eval, nrmL, Nat.reduceAdd])
      | (refine Way.ctl (fun _ => stepG_region) rfl ?_; simp only [nrmL, Nat.reduceAdd, Nat.zero_add, List.range, List.range.loop])
      | (refine Way.ctl (fun _ => stepG_cond (t := true) rfl) rfl ?_; simp only [if_true])
      | (refine Way.ctl (fun _ => stepG_cond (t := false) rfl) rfl ?_; simp only [Bool.false_eq_true, if_false])
      | refine Way.ctl (fun _ => stepG_ret') rfl ?_
      | refine Way.ctl (fun _ => stepG_end) rfl ?_)
    refine Way.here (atIn_of (s := dSeat Post e.toCore1 c cs) rfl rfl (by decide) (fun w => by simp [go_sem, execOp, rcase, Act.eval, dSeat, Seat.one]) (fun w => by simp [go_sem, execOp, Act.eval]) ?_)
    intro Z' n' w' v H'
    rw [show ∀ (fr : Frame) (cs : List Frame) (v : Value), Go.Conc.served (G fr cs) v = G (fr.finish v) cs from fun _ _ _ => rfl, Frame.finish_at]
    try simp only [Act.put, Act.eval, nrmL, Nat.reduceAdd]
    repeat (first
      | refine Run.auto rfl ?_
      | ((first | (refine Run.quietop rfl rfl rfl (by decide) ?_ ?_; (focus (intro w₁; simp [go_sem]; done)); intro w₁ K hK; go_simp; refine hK _ ?_; clear hK K w₁) | (refine Run.lookq theEnv rfl rfl rfl (by decide) rfl (fun _ _ q => by cases q) ?_; apply Exists.intro; apply And.intro; (focus (intro w; apply run_eq_of'; intro K hK; go_simp; exact hK))) | (refine Run.len theEnv rfl rfl (by decide) rfl rfl (by kernel_rfl) ?_) | (refine Run.not rfl rfl ?_)); try simp only [Act.put, Act.eval, nrmL, Nat.reduceAdd])
      | (refine Run.ctl (fun _ => stepG_region) rfl ?_; simp only [nrmL, Nat.reduceAdd, Nat.zero_add, List.range, List.range.loop])
      | (refine Run.ctl (fun _ => stepG_cond (t := true) rfl) rfl ?_; simp only [if_true])
      | (refine Run.ctl (fun _ => stepG_cond (t := false) rfl) rfl ?_; simp only [Bool.false_eq_true, if_false])
      | refine Run.ctl (fun _ => stepG_ret') rfl ?_
      | refine Run.ctl (fun _ => stepG_end) rfl ?_)
    refine Run.leave1 rfl rfl Try.func13 (by rfl) ?_
    try rw [Frame.finish_at]
    try simp only [Act.put, Act.eval, nrmL, Nat.reduceAdd]
    exact H'
  · rintro g₂ ⟨T, hT, rfl⟩
    have hinb : upd (upd Z.Inb 0 (some (dChair Post e.toCore1 c cs))) e.gi none = (s.popped e i).inb (some (e.gi, dChair Post e.toCore1 c cs)) := by
      have hse : (s.setE e.pop s.own).seats = s.seats := Sy.setE_seats (own' := s.own) R.gis hx rfl
      rw [R.inb]
      show upd (upd s.seats 0 _) e.gi none = upd (upd (s.setE e.pop s.own).seats 0 _) e.gi none
      rw [hse]
    have R2 : Rep ((Z.sit 0 (dChair Post e.toCore1 c cs) hp0 hc0).rise e.gi) n (some (e.gi, dChair Post e.toCore1 c cs)) (w1.setChan e.wk 0 #[] false (m + 1) (m + 1) false) (s.popped e i) 0 :=
      (R1.passed hx1 (.inl rfl) (m + 1)).seat rfl rfl rfl hinb (fun j d q => by
        obtain ⟨rfl, rfl⟩ := Prod.mk.inj (Option.some.inj q)
        exact ⟨e.pop, hx1, rfl, hD.val, hD.has⟩)
    have k2 := kept_chan w1 e.wk (m + 1)
    refine w_serve (caps := caps) hT hf hname hb ((R2.cell 0).trans (congrArg some hdo)) (R2.nsh 0 (.inr (by decide))) fun c0 hback => ?_
    refine HC _ _ _ c0 rfl rfl rfl R2 (k1'.trans (k2.mono fun k _ hk q => by rw [hk, hE.ow] at q; exact snd_ne q (by decide))) (hs1.keep k2 fun k _ ho hk => by rw [hk, hE.ow] at ho; exact snd_ne ho (by omega)) ?_
    intro Z2 n2 s2 w2 R3 hS hq he2 hQ
    obtain ⟨e2, he2, hc2⟩ := he2
    have hwch : s2.wch e2 = wChair s.S s.qc e.toCore1 := by unfold Sy.wch; rw [hS, hq, hc2]
    have hb2 : e2.b = e.b := by rw [hc2]
    have hd2 : e2.dn = e.dn := by rw [hc2]
    have hg2 : e2.gi = e.gi := by rw [hc2]
    refine hback Post Z2 n2 e.gi w2 (by rw [← hb2, ← hd2]; exact R3.cellE he2 2) (by rw [← hb2]; exact R3.nshE he2 2) fun a a₂ z' hr hs hw => ?_
    obtain ⟨m2, hm2⟩ := (R3.ents e2 he2).dn
    rw [hd2] at hm2
    have hz0 : Z2.Inb 0 = some (dChair Post e.toCore1 c cs) := by
      rw [R3.inb]
      show upd (upd s2.seats 0 _) e.gi none 0 = _
      rw [upd_ne _ _ (Ne.symm hgi), upd_same]
    have heg : (e.gi == 0) = false := beq_false_of_ne hgi
    refine Run.giveW (j := 0) (c := e.dn) (kk := 0) (m := m2) (chj := dChair Post e.toCore1 c cs) (ch := s2.wch e2) (v := .int .i64 e.id) (z := .int .i64 0) (z' := z') (Ne.symm hgi) R3.pos hz0 rfl ?_ hr (hs _) hm2 (R3.chairWf he2) (R3.chairO he2) (R3.chairK he2) (R3.chairSh he2) ?_ (R3.chairHd he2) (R3.chairC he2) ?_
    · intro x chx hxe hI hh
      rw [R3.inb] at hI
      replace hI : upd (upd s2.seats 0 (some (dChair Post e.toCore1 c cs))) e.gi none x = some chx := hI
      by_cases q : x = e.gi
      · rw [q, upd_same] at hI; cases hI
      · rw [upd_ne _ _ q, upd_ne _ _ hxe] at hI
        obtain ⟨y, hy, hyg, rfl⟩ := Sy.seats_of hI
        exact R3.notdn he2 hy (by rw [hd2]; exact hh)
    · rw [heg, hwch]; exact hw
    · intro g₂ hg₂
      refine hg₂ _ _ _ _ ?_
      refine H Z2 n2 s2 w2 _ _ hQ rfl rfl rfl ((R3.passed he2 (.inr hd2.symm) (m2 + 1)).seat rfl rfl rfl ?_ (fun j d q => by cases q)) ((kept_chan w2 e.dn (m2 + 1)).mono fun k _ hk q => by rw [hk, ← hd2, (R3.ents e2 he2).od] at q; exact snd_ne q (by decide))
      funext x
      show upd (upd Z2.Inb e.gi (some (s2.wch e2))) 0 none x = s2.seats x
      rw [R3.inb]
      show upd (upd (upd (upd s2.seats 0 _) e.gi none) e.gi (some (s2.wch e2))) 0 none x = s2.seats x
      by_cases q0 : x = 0
      · subst q0
        rw [upd_same, Sy.seats_none fun y hy q => by have := (R3.ents y hy).pos; omega]
      · rw [upd_ne _ _ q0]
        by_cases q1 : x = e.gi
        · subst q1
          rw [upd_same, ← hg2, Sy.seats_mem R3.gis he2]
        · rw [upd_ne _ _ q1, upd_ne _ _ q1, upd_ne _ _ q0]
end
end Go.Proofs.Ytfgpnfboolbbbaa
