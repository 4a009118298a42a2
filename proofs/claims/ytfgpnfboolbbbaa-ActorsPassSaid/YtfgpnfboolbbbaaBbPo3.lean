/-
  Post, where the actor is new: its record is entered, its worker is hired.
-/
import Derived.Test.YtfgpnfboolbbbaaBbNew
import Derived.Test.YtfgpnfboolbbbaaBbLiftU
namespace Go.Proofs.Ytfgpnfboolbbbaa
open Go Go.Conc Go.RowKit
open Go.ConcN (upd upd_ne upd_same)
noncomputable def pNew : Code := match Try.f12.body.getD .skip with
  | .seq _ (.seq _ (.seq _ (.seq _ (.seq _ (.seq (.seq _ (.cond _ t _)) _))))) => t
  | _ => .skip
noncomputable def pNew2 : Code := match pNew with
  | .seq _ t => t
  | _ => .skip
section
variable {Z : Scene} {n : Nat} {hd : Option (Nat × Chair)} {w wA : World} {s : Sy} {Post : Value → World → Prop} {h : Nat} {c : Frame} {cs : List Frame}
theorem go_step {P : Program} {b : Frame} {x : Act} {kk : List Item} {cs : List Frame} {ops : Array Oper} {i : Nat} {rest : List Nat} {o : Oper} {f : FuncId} {args : Array Operand} {ats : Array TypeId} (ho : ops[i]? = some o) (hw : Region.wanted o (yielded ops x.tmps) = true) (hk : b.kind ≠ .early)
    (hop : o.op = .go { callee := .value (.func f), args, argTypes := ats }) (vals : Array Value) (hv : args.map x.eval = vals) (m : Bool) (w : World) :
    stepG P m (G (b.at x (.inRegion ops (i :: rest) :: kk)) cs) w = .spawn (G (b.at (x.put o.dst undef) (.inRegion ops rest :: kk)) cs) (born P (dcall f vals)) w #[] := by
  subst hv
  have hr : (execOp x.eval o).run P w = .ok (.spawn (dcall f (args.map x.eval))) w := by
    unfold execOp
    simp [hop, resolve, Deferred.ofValue, Act.eval, dcall]
  have he : (execOp x.eval o).events P w #[] = #[] := by
    unfold execOp
    simp [hop, resolve, Deferred.ofValue, Act.eval]
  rw [stepG_spawn ho hw hk hr rfl, listed_none he]
theorem cell_cells {w : World} {a : Addr} {v : Value} (h : w.cell? a = some v) : ∃ cs t fr, w.heap[a.block]? = some (.cells cs t fr) := by
  unfold World.cell? at h
  cases e : w.heap[a.block]? with
  | none => rw [e] at h; cases h
  | some o =>
    rw [e] at h
    cases o <;> first | exact ⟨_, _, _, rfl⟩ | cases h
theorem Rd.cells {w : World} {F : Nat → Prop} {A : Option Addr} {xs : List Value} (h : Rd w F A xs) : Rd w (fun k => F k ∧ k < w.heap.size ∧ ∃ cs t fr, w.heap[k]? = some (.cells cs t fr)) A xs := by
  rcases h with h | ⟨g, o, hA, hF, hc⟩
  · exact .inl h
  · cases xs with
    | nil => exact .inl rfl
    | cons x xs =>
      have := hc 0 x rfl
      obtain ⟨cs, t, fr, q⟩ := cell_cells this
      exact .inr ⟨g, o, hA, ⟨hF, (Array.getElem?_eq_some_iff.1 q).1, cs, t, fr, q⟩, hc⟩
/-- The scene with one actor more. -/
def Scene.more (Z : Scene) (b x y : Nat) (h1 : ∀ c, Z.C c → c ≠ b) (h2 : ¬ Z.Hd x) (h3 : ¬ Z.Hd y) (h4 : x ≠ b) (h5 : y ≠ b) : Scene where
  Sh := Z.Sh
  Inb := Z.Inb
  Hd := fun k => Z.Hd k ∨ k = b
  C := fun k => Z.C k ∨ k = x ∨ k = y
  place := fun i ch a v hi hv => .inl (Z.place i ch a v hi hv)
  chan := fun i ch c hi hc => .inl (Z.chan i ch c hi hc)
  shun := fun l hl => by obtain ⟨a, e, q⟩ := Z.shun l hl; exact ⟨a, e, .inl q⟩
  apart := fun c hc hh => by
    rcases hc with hc | rfl | rfl <;> rcases hh with hh | hh
    · exact Z.apart c hc hh
    · exact h1 c hc hh
    · exact h2 hh
    · exact h4 hh
    · exact h3 hh
    · exact h5 hh
set_option maxRecDepth 50000 in
set_option maxHeartbeats 8000000 in
theorem post_new2 {id : Int} {IA : Option Addr} {ic : Nat} {bs : List UInt8} {GF : Nat → Prop} {v3 v4 v5 v6 v8 v9 v10 v11 v12 v13 v14 v15 v16 v17 v18 v19 v20 v21 v22 v23 v24 v25 v26 v27 v28 v29 v30 v31 v32 v33 v34 v35 v36 v37 v38 v39 v40 v41 v42 v43 v44 v45 v46 v47 v48 v49 v50 v51 v52 v53 v54 v55 v56 v57 v58 v59 v60 : Value} {b x y : Nat} (R : Rep Z n hd w s 1) (hok : WOk Try.prog Z w) (hst : s.stopped = false) (hmiss : ∀ e ∈ s.ents, e.id ≠ id) (hv : s.ents.length < 2000000000)
    (hk : Kept noneS w wA) (hb : Blk wA b 75 #[.slice none 0 0, .chan (some x), .chan (some y)]) (hbn : w.heap.size ≤ b) (hx : wA.heap[x]? = some (.chan 0 #[] false 0 0 false)) (hxn : w.heap.size ≤ x) (hy : wA.heap[y]? = some (.chan 0 #[] false 0 0 false)) (hyn : w.heap.size ≤ y) (hxy : x ≠ y)
    (hr : RB w GF IA bs) (hG : ∀ k, k < w.heap.size → GF k → ¬ Z.Hd k) (hbl : bs.length ≤ 140737488355328)
    (H : ∀ Z' s' w', Rep Z' (n + 1) hd w' s' 0 → s'.abs = s.abs ++ [(id, [bs])] → Ext Z n w s Z' (n + 1) w' s' → Run Try.prog Post Z' (n + 1) h 0 (G (c.finish (.bool true)) cs) w') :
    Run Try.prog Post Z n h 0 (G ((base 12).at ⟨#[.pointer (some ⟨s.S, 0, none⟩), .int .i64 id, .slice IA bs.length ic, v3, v4, v5, v6, .pointer (some ⟨b, 0, none⟩), v8, v9, v10, v11, v12, v13, v14, v15, v16, v17, v18, v19, v20, v21, v22, v23, v24, v25, v26, v27, v28, v29, v30, v31, v32, v33, v34, v35, v36, v37, v38, v39, v40, v41, v42, v43, v44, v45, v46, v47, v48, v49, v50, v51, v52, v53, v54, v55, v56, v57, v58, v59, v60], [dcall 23 #[.pointer (some ⟨s.S, 1, none⟩)]]⟩ [.code pNew2, .code pTail]) (c :: cs)) wA := by
  have RA : Rep Z n hd wA s 1 := R.keep hk fun _ q => q.elim
  unfold pNew2 pNew
  simp only [Try.f12, Option.getD_some]
  repeat (first
    | refine Run.auto rfl ?_
    | ((first | (refine Run.quietop rfl rfl rfl (by decide) ?_ ?_; (focus (intro w₁; simp [go_sem]; done)); intro w₁ K hK; go_simp; refine hK _ ?_; clear hK K w₁) | (refine Run.lookq theEnv rfl rfl rfl (by decide) rfl (fun _ _ q => by cases q) ?_; apply Exists.intro; apply And.intro; (focus (intro w; apply run_eq_of'; intro K hK; go_simp; exact hK))) | (refine Run.len theEnv rfl rfl (by decide) rfl rfl (by kernel_rfl) ?_) | (refine Run.not rfl rfl ?_)); try simp only [Act.put, Act.eval, nrmL, Nat.reduceAdd])
    | (refine Run.ctl (fun _ => stepG_region) rfl ?_; simp only [nrmL, Nat.reduceAdd, Nat.zero_add, List.range, List.range.loop])
    | (refine Run.ctl (fun _ => stepG_cond (t := true) rfl) rfl ?_; simp only [if_true])
    | (refine Run.ctl (fun _ => stepG_cond (t := false) rfl) rfl ?_; simp only [Bool.false_eq_true, if_false])
    | refine Run.ctl (fun _ => stepG_ret') rfl ?_
    | refine Run.ctl (fun _ => stepG_end) rfl ?_)
  refine Run.ld (a := ⟨s.S, 3, none⟩) (v := .map (some s.mp)) rfl rfl (by decide) (RA.cell 3) (RA.nsh 3 (.inr (by decide))) (fun w₁ hld => ⟨by go_simp, by simp [go_sem, hld]⟩) ?_
  try simp only [Act.put, Act.eval, nrmL, Nat.reduceAdd]
  repeat (first
    | refine Run.auto rfl ?_
    | ((first | (refine Run.quietop rfl rfl rfl (by decide) ?_ ?_; (focus (intro w₁; simp [go_sem]; done)); intro w₁ K hK; go_simp; refine hK _ ?_; clear hK K w₁) | (refine Run.lookq theEnv rfl rfl rfl (by decide) rfl (fun _ _ q => by cases q) ?_; apply Exists.intro; apply And.intro; (focus (intro w; apply run_eq_of'; intro K hK; go_simp; exact hK))) | (refine Run.len theEnv rfl rfl (by decide) rfl rfl (by kernel_rfl) ?_) | (refine Run.not rfl rfl ?_)); try simp only [Act.put, Act.eval, nrmL, Nat.reduceAdd])
    | (refine Run.ctl (fun _ => stepG_region) rfl ?_; simp only [nrmL, Nat.reduceAdd, Nat.zero_add, List.range, List.range.loop])
    | (refine Run.ctl (fun _ => stepG_cond (t := true) rfl) rfl ?_; simp only [if_true])
    | (refine Run.ctl (fun _ => stepG_cond (t := false) rfl) rfl ?_; simp only [Bool.false_eq_true, if_false])
    | refine Run.ctl (fun _ => stepG_ret') rfl ?_
    | refine Run.ctl (fun _ => stepG_end) rfl ?_)
  have hmp : Z.Hd s.mp → False := (R.vis _ (by rw [R.om]; decide)).1
  refine Run.layU (S := (· = s.mp)) theEnv rfl rfl (by decide) rfl (fun _ _ q => by cases q) (fun c hc q => (R.vis _ (by rw [R.om]; decide)).2 (q ▸ hc)) fun u hu _ => ?_
  have hmu := RA.map.keep hu fun q => hmp q
  obtain ⟨v', hrun, hm', hkm, hsz⟩ := hmu.put Try.underlying41 Try.underlying3 (i := id) (fun p hp q => by
    obtain ⟨e, he, rfl⟩ := List.mem_map.1 hp
    exact hmiss e he q) b
  unfold ptr at hrun
  refine ⟨v', by go_simp, hkm, fun w2 k2 kv _ => ?_⟩
  have hm2 := hm'.keep kv fun q => hmp q
  try simp only [Act.put, Act.eval, nrmL, Nat.reduceAdd]
  have hneS : ¬ s.S = s.mp := fun q => by have := R.oS; rw [q, R.om] at this; exact snd_ne this (by decide)
  have hblt : b < wA.heap.size := hb.lt
  have hmlt := R.map.lt
  have hbm : ¬ b = s.mp := fun q => by omega
  have hS2 : Blk w2 s.S 58 (s.cells 1) := RA.sys.keep k2 hneS
  have hb2 := hb.keep k2 hbm
  have hx2 : w2.heap[x]? = some (.chan 0 #[] false 0 0 false) := by
    rw [k2.block x (Array.getElem?_eq_some_iff.1 hx).1 (fun q => by omega)]; exact hx
  have hy2 : w2.heap[y]? = some (.chan 0 #[] false 0 0 false) := by
    rw [k2.block y (Array.getElem?_eq_some_iff.1 hy).1 (fun q => by omega)]; exact hy
  repeat (first
    | refine Run.auto rfl ?_
    | ((first | (refine Run.quietop rfl rfl rfl (by decide) ?_ ?_; (focus (intro w₁; simp [go_sem]; done)); intro w₁ K hK; go_simp; refine hK _ ?_; clear hK K w₁) | (refine Run.lookq theEnv rfl rfl rfl (by decide) rfl (fun _ _ q => by cases q) ?_; apply Exists.intro; apply And.intro; (focus (intro w; apply run_eq_of'; intro K hK; go_simp; exact hK))) | (refine Run.len theEnv rfl rfl (by decide) rfl rfl (by kernel_rfl) ?_) | (refine Run.not rfl rfl ?_)); try simp only [Act.put, Act.eval, nrmL, Nat.reduceAdd])
    | (refine Run.ctl (fun _ => stepG_region) rfl ?_; simp only [nrmL, Nat.reduceAdd, Nat.zero_add, List.range, List.range.loop])
    | (refine Run.ctl (fun _ => stepG_cond (t := true) rfl) rfl ?_; simp only [if_true])
    | (refine Run.ctl (fun _ => stepG_cond (t := false) rfl) rfl ?_; simp only [Bool.false_eq_true, if_false])
    | refine Run.ctl (fun _ => stepG_ret') rfl ?_
    | refine Run.ctl (fun _ => stepG_end) rfl ?_)
  refine Run.enter rfl rfl (by decide) rfl Try.func27 (by kernel_rfl) rfl ?_
  simp only [Act.eval, nrmL, Nat.reduceAdd]
  refine addPos_run (S := s.S) s.ents.length (by omega) (hS2.cell 5) (hS2.frozen 5) (by rw [show wsm s.S = ⟨s.S, 6, none⟩ from rfl, hS2.cell 6]; rfl) (R.npl 5 (by decide)) (R.nC hok) ?_
  have k3 := kept_set w2 (wst s.S) (.int .u64 (((s.ents.length + 1 : Nat) : Int) * K32))
  have hS3 := hS2.set_ 5 (.int .u64 (((s.ents.length + 1 : Nat) : Int) * K32))
  have hSl := R.sys.lt
  have hb3 := hb2.keep k3 (fun q => by have : b = s.S := q; omega)
  have hm3 := hm2.keep k3 (fun q => hneS q.symm)
  have hx3 : (w2.setCell (wst s.S) (.int .u64 (((s.ents.length + 1 : Nat) : Int) * K32))).heap[x]? = some (.chan 0 #[] false 0 0 false) := by
    rw [k3.block x (Array.getElem?_eq_some_iff.1 hx2).1 (fun q => by have : x = s.S := q; omega)]; exact hx2
  have hy3 : (w2.setCell (wst s.S) (.int .u64 (((s.ents.length + 1 : Nat) : Int) * K32))).heap[y]? = some (.chan 0 #[] false 0 0 false) := by
    rw [k3.block y (Array.getElem?_eq_some_iff.1 hy2).1 (fun q => by have : y = s.S := q; omega)]; exact hy2
  replace hS3 : Blk (w2.setCell (wst s.S) (.int .u64 (((s.ents.length + 1 : Nat) : Int) * K32))) s.S 58 _ := hS3
  have k03 : Kept (fun k => k = s.S ∨ k = s.mp) w (w2.setCell (wst s.S) (.int .u64 (((s.ents.length + 1 : Nat) : Int) * K32))) := ((hk.mono fun _ _ q => q.elim).trans (k2.mono fun _ _ q => .inr q)).trans (k3.mono fun _ _ q => .inl q)
  generalize w2.setCell (wst s.S) (.int .u64 (((s.ents.length + 1 : Nat) : Int) * K32)) = w3 at *
  rw [Frame.finish_at]
  try simp only [Act.put, Act.eval, nrmL, Nat.reduceAdd]
  repeat (first
    | refine Run.auto rfl ?_
    | ((first | (refine Run.quietop rfl rfl rfl (by decide) ?_ ?_; (focus (intro w₁; simp [go_sem]; done)); intro w₁ K hK; go_simp; refine hK _ ?_; clear hK K w₁) | (refine Run.lookq theEnv rfl rfl rfl (by decide) rfl (fun _ _ q => by cases q) ?_; apply Exists.intro; apply And.intro; (focus (intro w; apply run_eq_of'; intro K hK; go_simp; exact hK))) | (refine Run.len theEnv rfl rfl (by decide) rfl rfl (by kernel_rfl) ?_) | (refine Run.not rfl rfl ?_)); try simp only [Act.put, Act.eval, nrmL, Nat.reduceAdd])
    | (refine Run.ctl (fun _ => stepG_region) rfl ?_; simp only [nrmL, Nat.reduceAdd, Nat.zero_add, List.range, List.range.loop])
    | (refine Run.ctl (fun _ => stepG_cond (t := true) rfl) rfl ?_; simp only [if_true])
    | (refine Run.ctl (fun _ => stepG_cond (t := false) rfl) rfl ?_; simp only [Bool.false_eq_true, if_false])
    | refine Run.ctl (fun _ => stepG_ret') rfl ?_
    | refine Run.ctl (fun _ => stepG_end) rfl ?_)
  have hxb : x ≠ b := fun q => by rw [q] at hx; have := hb; unfold Blk at this; rw [this] at hx; cases hx
  have hyb : y ≠ b := fun q => by rw [q] at hy; have := hb; unfold Blk at this; rw [this] at hy; cases hy
  have n1 : ∀ c, Z.C c → c ≠ b := fun c hc q => by have := hok.chanlt hc; omega
  have n2 : ¬ Z.Hd x := hok.fresh hxn
  have n3 : ¬ Z.Hd y := hok.fresh hyn
  refine Run.scene (Z' := Z.more b x y n1 n2 n3 hxb hyb) rfl rfl (fun hz => ⟨fun k o hk => hz.obj k o fun q => hk (.inl q), fun k hk => ?_, fun k hk => ?_⟩) ?_
  · rcases hk with hk | rfl
    · exact hz.hid k hk
    · exact ⟨_, rfl, hb3⟩
  · rcases hk with hk | rfl | rfl
    · exact hz.chan k hk
    · exact ⟨_, rfl, hx3⟩
    · exact ⟨_, rfl, hy3⟩
  let co : Core1 := ⟨id, n, b, x, y⟩
  let e0 : Ent := { co with A := none, c := 0, items := [] }
  let own2 : Nat → Nat × Nat := fun k => if k < w.heap.size then s.own k else if k = b then (n, 1) else if k = x then (n, 2) else if k = y then (n, 3) else (0, 0)
  have hb3l := hb3.lt
  have hx3l := (Array.getElem?_eq_some_iff.1 hx3).1
  have hy3l := (Array.getElem?_eq_some_iff.1 hy3).1
  have hq := (R.opn hst)
  have hql := hq.1.lt
  obtain ⟨mq, hq3⟩ : ∃ k, w3.heap[s.qc]? = some (.chan 0 #[] false k k false) := hq.1.keep k03 fun q => by
    rcases q with q | q
    · have := R.oq; rw [q, R.oS] at this; exact snd_ne this (by decide)
    · have := R.oq; rw [q, R.om] at this; exact snd_ne this (by decide)
  have hnS : ∀ a, Z.Sh (.cell a) → a.block ≠ b := fun a q hab => by
    obtain ⟨a', e1, e2⟩ := Z.shun _ q
    cases e1
    rw [hab] at e2
    exact hok.fresh hbn e2
  have hp : ∀ a v, (wChair s.S s.qc co).val a = some v → (Z.more b x y n1 n2 n3 hxb hyb).Hd a.block := fun a v hv => by
    rcases wVal_of hv with ⟨rfl, _⟩ | ⟨rfl, _⟩
    · exact .inl R.hS
    · exact .inr rfl
  have hcc : ∀ c, (wChair s.S s.qc co).seat.has c → (Z.more b x y n1 n2 n3 hxb hyb).C c := fun c hc => by
    rcases wSeat_has hc with rfl | rfl
    · exact .inr (.inl rfl)
    · exact .inl hq.2
  have hInn : Z.Inb n = none := by
    rw [R.inb]
    have h0 : s.seats n = none := Sy.seats_none fun e he q => by have := R.gin e he; omega
    have hpos := R.pos
    cases hhd : hd with
    | none => exact h0
    | some p =>
      obtain ⟨j, d⟩ := p
      obtain ⟨e, he, h1, _⟩ := R.hdk j d hhd
      have := R.gin e he
      show upd (upd s.seats 0 (some d)) j none n = none
      rw [upd_ne _ _ (by omega), upd_ne _ _ (by omega), h0]
  obtain ⟨nc, hsits⟩ := (w_birth s.S s.qc co).sits
  refine Run.hire (nc := nc) (ch := wChair s.S s.qc co) rfl (go_step rfl rfl (by decide) rfl #[.pointer (some ⟨s.S, 0, none⟩), .int .i64 id, .pointer (some ⟨b, 0, none⟩)] (by simp [Act.eval]) _) ?_ hInn (wSeat_wf (fun q => by have : x = s.qc := q; omega)) ?_ ?_ hsits hp hcc ?_
  · rintro l ⟨a, v, rfl, hv⟩
    rcases wVal_of hv with ⟨rfl, _⟩ | ⟨rfl, _⟩
    · exact R.nsh 4 (.inr (by decide))
    · exact fun q => hnS _ q rfl
  · intro c' hc'
    rcases wSeat_has hc' with rfl | rfl
    · exact ⟨0, 0, hx3⟩
    · exact ⟨0, mq, hq3⟩
  · intro a v hv
    rcases wVal_of hv with ⟨rfl, rfl⟩ | ⟨rfl, rfl⟩
    · rw [hS3.cell]; rfl
    · rw [hb3.cell]; rfl
  have R3 : Rep ((Z.more b x y n1 n2 n3 hxb hyb).sit n (wChair s.S s.qc co) hp hcc) (n + 1) hd w3 (s.add e0 own2) 1 := by
    refine R.addE (e := e0) hst k03 (fun k _ hf => hf) ?_ ?_ ⟨hb3, ⟨rfl, .inl ⟨rfl, rfl⟩⟩, (fun i hi => nomatch hi), List.nodup_nil, ⟨0, hx3⟩, ⟨0, hy3⟩, ?_, ?_, ?_, R.pos⟩ rfl (fun k hk => ?_) (fun k hk => ?_) (fun k hk => .inl hk) (fun k hk => .inl hk) (.inr rfl) (.inr (.inl rfl)) (.inr (.inr rfl)) rfl (fun k hk => ?_) rfl hnS
    · have : (s.add e0 own2).cells 1 = (s.cells 1).setIfInBounds 5 (.int .u64 (((s.ents.length + 1 : Nat) : Int) * K32)) := by
        unfold Sy.cells Sy.add
        simp
      rw [this]
      exact hS3
    · rw [List.map_append]
      exact hm3
    · show own2 b = (n, 1)
      simp [own2, Nat.not_lt.2 hbn]
    · show own2 x = (n, 2)
      simp [own2, Nat.not_lt.2 hxn, hxb]
    · show own2 y = (n, 3)
      simp [own2, Nat.not_lt.2 hyn, hyb, Ne.symm hxy]
    · simp only [own2]
      rw [if_pos hk]
    · simp only [own2]
      have := k03.size
      rw [if_neg (by omega), if_neg (by omega), if_neg (by omega), if_neg (by omega)]
    · have key : k < w.heap.size ∧ 4 ≤ (s.own k).2 := by
        simp only [own2] at hk
        split at hk
        · exact ⟨by assumption, hk⟩
        · exfalso
          split at hk
          · simp at hk
          · split at hk
            · simp at hk
            · split at hk <;> simp at hk
      have h1 := R.vis k key.2
      refine ⟨fun q => ?_, fun q => ?_⟩
      · rcases q with q | q
        · exact h1.1 q
        · omega
      · rcases q with q | q | q
        · exact h1.2 q
        · omega
        · omega
  try simp only [Act.put, Act.eval, nrmL, Nat.reduceAdd]
  refine Run.auto rfl ?_
  have hr3 : RB w3 (fun k => GF k ∧ k < w.heap.size ∧ ∃ cs t fr, w.heap[k]? = some (.cells cs t fr)) IA bs := (Rd.cells hr).keep k03 fun k hk hf hq => by
    rcases hq with rfl | rfl
    · exact hG _ hk hf.1 R.hS
    · obtain ⟨es, cl, hmm, _⟩ := R.map
      obtain ⟨_, _, cs, t, fr, q⟩ := hf
      rw [hmm] at q
      cases q
  have he0 : e0 ∈ (s.add e0 own2).ents := List.mem_append_right _ (List.mem_singleton.2 rfl)
  refine post_tail (s := s.add e0 own2) (e := e0) (id := id) (GF := fun k => GF k ∧ k < w.heap.size ∧ ∃ cs t fr, w.heap[k]? = some (.cells cs t fr)) R3 he0 hr3 (fun k _ hf q => ?_) hbl (fun q => ?_) fun _ w' t A1 c1 A2 c2 own' R4 ho4 k4 => ?_
  · rcases q with q | q
    · exact hG k hf.2.1 hf.1 q
    · have := hf.2.1; omega
  · exact absurd q (by show ¬ (64 ≤ 0); omega)
  · refine H _ _ _ R4 ?_ ⟨rfl, rfl, rfl, rfl, fun k h1 h2 => ?_, (k03.mono fun k _ hk q => ?_).trans2 k4 fun k h1 h2 => ?_, fun k hk => ?_, fun k hk => ?_, rfl, Nat.le_succ _, Nat.le_refl _, fun e he => ?_⟩
    · rw [R3.abs_setE (e' := e0.push A2 c2 ⟨t, A1, c1, bs⟩) he0 rfl]
      unfold Sy.abs Sy.add
      rw [List.map_append, List.map_append]
      congr 1
      · rw [List.map_map]
        refine List.map_congr_left fun e he => ?_
        exact if_neg (hmiss e he)
      · simp [e0, co, Ent.push]
    · rw [show ((s.add e0 own2).setE (e0.push A2 c2 ⟨t, A1, c1, bs⟩) own').own k = own' k from rfl, ho4 k (Nat.lt_of_lt_of_le h1 k03.size)]
      show own2 k = (0, 0)
      simp only [own2]
      rw [if_pos h1]
      exact h2
    · rcases hk with rfl | rfl
      · rw [R.oS] at q; exact snd_ne q (by decide)
      · rw [R.om] at q; exact snd_ne q (by decide)
    · intro q
      refine h2 ?_
      show own2 k = (0, 0)
      simp only [own2]
      rw [if_pos h1]
      exact q
    · exact ⟨fun q => q.elim (fun q => q) fun q => by omega, fun q => .inl q⟩
    · exact ⟨fun q => q.elim (fun q => q) fun q => by omega, fun q => .inl q⟩
    · by_cases hg : e.gi = e0.gi
      · have := R.gin e he
        have : e0.gi = n := rfl
        omega
      · exact ⟨e, List.mem_map.2 ⟨e, List.mem_append_left _ he, if_neg hg⟩, rfl⟩
end
end Go.Proofs.Ytfgpnfboolbbbaa
namespace Go.Proofs.Ytfgpnfboolbbbaa
open Go Go.Conc Go.RowKit
section
variable {Z : Scene} {n : Nat} {hd : Option (Nat × Chair)} {w : World} {s : Sy} {Post : Value → World → Prop} {h : Nat} {c : Frame} {cs : List Frame}
theorem Ext.ahead {w1 : World} {Z' : Scene} {n' : Nat} {w' : World} {s' : Sy} (hk : Kept (fun k => s.own k ≠ (0, 0)) w w1) (h : Ext Z n w1 s Z' n' w' s') : Ext Z n w s Z' n' w' s' :=
  ⟨h.S, h.qc, h.fdo, h.stopped, fun k hl => h.own k (Nat.lt_of_lt_of_le hl hk.size), hk.trans h.kept, fun k hl => h.Hd k (Nat.lt_of_lt_of_le hl hk.size), fun k hl => h.C k (Nat.lt_of_lt_of_le hl hk.size), h.Sh, h.n1, h.n2, h.cores⟩
theorem mk_chan {P : Program} {t e : TypeId} {dir : ChanDir} (ht : P.underlying t = some (.chan dir e)) (hi : (P.info? e).isSome = true) (u : World) : (Instr.makeChan t (.int .i64 0)).run P u = .ok (.chan (some u.heap.size)) (u.alloc (.chan 0 #[] false 0 0 false)) := by
  obtain ⟨i, hi⟩ := Option.isSome_iff_exists.1 hi
  exact run_makeChan ht hi .i64 0 (by omega) (by omega)
theorem mk_work (u : World) : (Instr.makeChan 73 (.int .i64 0)).run Try.prog u = .ok (.chan (some u.heap.size)) (u.alloc (.chan 0 #[] false 0 0 false)) := mk_chan Try.underlying73 (by kernel_rfl) u
theorem mk_done (u : World) : (Instr.makeChan 42 (.int .i64 0)).run Try.prog u = .ok (.chan (some u.heap.size)) (u.alloc (.chan 0 #[] false 0 0 false)) := mk_chan Try.underlying42 (by kernel_rfl) u
def postA (s : Sy) (id : Int) (bs : List UInt8) : List (Int × List (List UInt8)) × Bool := if s.stopped = true then (s.abs, false) else putA s.abs id bs
set_option maxRecDepth 50000 in
set_option maxHeartbeats 2000000 in
theorem post_fresh {id : Int} {IA : Option Addr} {ic : Nat} {bs : List UInt8} {GF : Nat → Prop} {v3 v4 v5 v6 v7 v8 v9 v10 v11 v12 v13 v14 v15 v16 v17 v18 v19 v20 v21 v22 v23 v24 v25 v26 v27 v28 v29 v30 v31 v32 v33 v34 v35 v36 v37 v38 v39 v40 v41 v42 v43 v44 v45 v46 v47 v48 v49 v50 v51 v52 v53 v54 v55 v56 v57 v58 v59 v60 : Value} (R : Rep Z n hd w s 1) (hst : s.stopped = false) (hmiss : ∀ e ∈ s.ents, e.id ≠ id) (hv : s.ents.length < 2000000000)
    (hr : RB w GF IA bs) (hG : ∀ k, k < w.heap.size → GF k → ¬ Z.Hd k) (hbl : bs.length ≤ 140737488355328)
    (H : ∀ Z' s' w', Rep Z' (n + 1) hd w' s' 0 → s'.abs = s.abs ++ [(id, [bs])] → Ext Z n w s Z' (n + 1) w' s' → Run Try.prog Post Z' (n + 1) h 0 (G (c.finish (.bool true)) cs) w') :
    Run Try.prog Post Z n h 0 (G ((base 12).at ⟨#[.pointer (some ⟨s.S, 0, none⟩), .int .i64 id, .slice IA bs.length ic, v3, v4, v5, v6, v7, v8, v9, v10, v11, v12, v13, v14, v15, v16, v17, v18, v19, v20, v21, v22, v23, v24, v25, v26, v27, v28, v29, v30, v31, v32, v33, v34, v35, v36, v37, v38, v39, v40, v41, v42, v43, v44, v45, v46, v47, v48, v49, v50, v51, v52, v53, v54, v55, v56, v57, v58, v59, v60], [dcall 23 #[.pointer (some ⟨s.S, 1, none⟩)]]⟩ [.code pNew, .code pTail]) (c :: cs)) w := by
  refine Run.okG fun hok => ?_
  have f0 : ¬ Z.Hd w.heap.size := hok.fresh (Nat.le_refl _)
  have f1 : ¬ Z.Hd (w.heap.size + 1) := hok.fresh (by omega)
  have f2 : ¬ Z.Hd (w.heap.size + 1 + 1) := hok.fresh (by omega)
  unfold pNew
  simp only [Try.f12, Option.getD_some]
  refine Run.auto rfl ?_
  refine Run.drawE [[0, 1, 2, 3, 4], [1, 0, 2, 3, 4]] (by kernel_rfl) (by kernel_rfl) fun l hl => ?_
  have key : ∀ (x y : Nat), (x = w.heap.size ∧ y = w.heap.size + 1 ∨ y = w.heap.size ∧ x = w.heap.size + 1) → ∀ v27 v28 v29 v30, Run Try.prog Post Z n h 0 (G ((base 12).at ⟨#[.pointer (some ⟨s.S, 0, none⟩), .int .i64 id, .slice IA bs.length ic, v3, v4, v5, v6, .pointer (some ⟨w.heap.size + 1 + 1, 0, none⟩), v8, v9, v10, v11, v12, v13, v14, v15, v16, v17, v18, v19, v20, v21, v22, v23, v24, v25, v26, v27, v28, v29, v30, v31, v32, v33, v34, v35, v36, v37, v38, v39, v40, v41, v42, v43, v44, v45, v46, v47, v48, v49, v50, v51, v52, v53, v54, v55, v56, v57, v58, v59, v60], [dcall 23 #[.pointer (some ⟨s.S, 1, none⟩)]]⟩ [.code pNew2, .code pTail]) (c :: cs))
      (((w.alloc (.chan 0 #[] false 0 0 false)).alloc (.chan 0 #[] false 0 0 false)).alloc (.cells #[.slice none 0 0, .chan (some x), .chan (some y)] 75)) := by
    intro x y hxy v27 v28 v29 v30
    have e1 : (w.alloc (.chan 0 #[] false 0 0 false)).heap.size = w.heap.size + 1 := by simp
    have e2 : ((w.alloc (.chan 0 #[] false 0 0 false)).alloc (.chan 0 #[] false 0 0 false)).heap.size = w.heap.size + 1 + 1 := by simp
    have g0 : (((w.alloc (.chan 0 #[] false 0 0 false)).alloc (.chan 0 #[] false 0 0 false)).alloc (.cells #[.slice none 0 0, .chan (some x), .chan (some y)] 75)).heap[w.heap.size]? = some (.chan 0 #[] false 0 0 false) := by
      rw [Below.heap_alloc _ _ _ (by omega), Below.heap_alloc _ _ _ (by omega), heap_alloc_new]
    have g1 : (((w.alloc (.chan 0 #[] false 0 0 false)).alloc (.chan 0 #[] false 0 0 false)).alloc (.cells #[.slice none 0 0, .chan (some x), .chan (some y)] 75)).heap[w.heap.size + 1]? = some (.chan 0 #[] false 0 0 false) := by
      rw [Below.heap_alloc _ _ _ (by omega), ← e1, heap_alloc_new]
    have hkk : Kept noneS w (((w.alloc (.chan 0 #[] false 0 0 false)).alloc (.chan 0 #[] false 0 0 false)).alloc (.cells #[.slice none 0 0, .chan (some x), .chan (some y)] 75)) := (((Kept.refl _ _).alloc _).alloc _).alloc _
    have hb : Blk (((w.alloc (.chan 0 #[] false 0 0 false)).alloc (.chan 0 #[] false 0 0 false)).alloc (.cells #[.slice none 0 0, .chan (some x), .chan (some y)] 75)) (w.heap.size + 1 + 1) 75 #[.slice none 0 0, .chan (some x), .chan (some y)] := by
      have := heap_alloc_new ((w.alloc (.chan 0 #[] false 0 0 false)).alloc (.chan 0 #[] false 0 0 false)) (.cells #[.slice none 0 0, .chan (some x), .chan (some y)] 75)
      rw [e2] at this
      exact this
    have hr' : RB (((w.alloc (.chan 0 #[] false 0 0 false)).alloc (.chan 0 #[] false 0 0 false)).alloc (.cells #[.slice none 0 0, .chan (some x), .chan (some y)] 75)) GF IA bs := Rd.alloc (Rd.alloc (Rd.alloc hr _) _) _
    generalize ((w.alloc (.chan 0 #[] false 0 0 false)).alloc (.chan 0 #[] false 0 0 false)).alloc (.cells #[.slice none 0 0, .chan (some x), .chan (some y)] 75) = wA at *
    refine post_new2 R hok hst hmiss hv hkk hb (by omega) (x := x) (y := y) ?_ (by omega) ?_ (by omega) (by omega) hr hG hbl H
    · rcases hxy with ⟨rfl, rfl⟩ | ⟨rfl, rfl⟩
      · exact g0
      · exact g1
    · rcases hxy with ⟨rfl, rfl⟩ | ⟨rfl, rfl⟩
      · exact g1
      · exact g0
  simp only [List.mem_cons, List.not_mem_nil, or_false] at hl
  rcases hl with rfl | rfl
  · refine Run.made theEnv rfl rfl (by decide) rfl (fun _ _ q => by cases q) (.chan (some w.heap.size)) (.chan 0 #[] false 0 0 false) (fun u _ hus => by have e1 := mk_work u; have e2 := mk_done u; rw [hus] at e1 e2; go_simp) f0 ?_
    try simp only [Act.put, Act.eval, nrmL, Nat.reduceAdd]
    refine Run.made theEnv rfl rfl (by decide) rfl (fun _ _ q => by cases q) (.chan (some (w.heap.size + 1))) (.chan 0 #[] false 0 0 false) (fun u _ hus => by have e1 := mk_work u; have e2 := mk_done u; simp at hus; rw [hus] at e1 e2; go_simp) (by simpa using f1) ?_
    try simp only [Act.put, Act.eval, nrmL, Nat.reduceAdd]
    (refine Run.quietop rfl rfl rfl (by decide) ?_ ?_; (focus (intro w₁; simp [go_sem]; done)); intro w₁ K hK; go_simp; refine hK _ ?_; clear hK K w₁; try simp only [Act.put, Act.eval, nrmL, Nat.reduceAdd])
    refine Run.made theEnv rfl rfl (by decide) rfl (fun _ _ q => by cases q) (.pointer (some ⟨w.heap.size + 1 + 1, 0, none⟩)) (.cells #[.slice none 0 0, .chan (some w.heap.size), .chan (some (w.heap.size + 1))] 75) (fun u _ hus => by simp at hus; go_simp) (by simpa using f2) ?_
    try simp only [Act.put, Act.eval, nrmL, Nat.reduceAdd]
    (refine Run.quietop rfl rfl rfl (by decide) ?_ ?_; (focus (intro w₁; simp [go_sem]; done)); intro w₁ K hK; go_simp; refine hK _ ?_; clear hK K w₁; try simp only [Act.put, Act.eval, nrmL, Nat.reduceAdd])
    refine Run.auto rfl ?_
    exact key _ _ (.inl ⟨rfl, rfl⟩) _ _ _ _
  · refine Run.made theEnv rfl rfl (by decide) rfl (fun _ _ q => by cases q) (.chan (some w.heap.size)) (.chan 0 #[] false 0 0 false) (fun u _ hus => by have e1 := mk_work u; have e2 := mk_done u; rw [hus] at e1 e2; go_simp) f0 ?_
    try simp only [Act.put, Act.eval, nrmL, Nat.reduceAdd]
    refine Run.made theEnv rfl rfl (by decide) rfl (fun _ _ q => by cases q) (.chan (some (w.heap.size + 1))) (.chan 0 #[] false 0 0 false) (fun u _ hus => by have e1 := mk_work u; have e2 := mk_done u; simp at hus; rw [hus] at e1 e2; go_simp) (by simpa using f1) ?_
    try simp only [Act.put, Act.eval, nrmL, Nat.reduceAdd]
    (refine Run.quietop rfl rfl rfl (by decide) ?_ ?_; (focus (intro w₁; simp [go_sem]; done)); intro w₁ K hK; go_simp; refine hK _ ?_; clear hK K w₁; try simp only [Act.put, Act.eval, nrmL, Nat.reduceAdd])
    refine Run.made theEnv rfl rfl (by decide) rfl (fun _ _ q => by cases q) (.pointer (some ⟨w.heap.size + 1 + 1, 0, none⟩)) (.cells #[.slice none 0 0, .chan (some (w.heap.size + 1)), .chan (some w.heap.size)] 75) (fun u _ hus => by simp at hus; go_simp) (by simpa using f2) ?_
    try simp only [Act.put, Act.eval, nrmL, Nat.reduceAdd]
    (refine Run.quietop rfl rfl rfl (by decide) ?_ ?_; (focus (intro w₁; simp [go_sem]; done)); intro w₁ K hK; go_simp; refine hK _ ?_; clear hK K w₁; try simp only [Act.put, Act.eval, nrmL, Nat.reduceAdd])
    refine Run.auto rfl ?_
    exact key _ _ (.inr ⟨rfl, rfl⟩) _ _ _ _
end
end Go.Proofs.Ytfgpnfboolbbbaa
