/-
  New, walked: a System without actors.
-/
import Derived.Test.YtfgpnfboolbbbaaBbPo3
namespace Go.Proofs.Ytfgpnfboolbbbaa
open Go Go.Conc Go.RowKit
/-- The scene with one System more. -/
def Scene.sys (Z : Scene) (b x : Nat) (h1 : ∀ c, Z.C c → c ≠ b) (h2 : ¬ Z.Hd x) (h4 : x ≠ b) : Scene where
  Sh := Z.Sh
  Inb := Z.Inb
  Hd := fun k => Z.Hd k ∨ k = b
  C := fun k => Z.C k ∨ k = x
  place := fun i ch a v hi hv => .inl (Z.place i ch a v hi hv)
  chan := fun i ch c hi hc => .inl (Z.chan i ch c hi hc)
  shun := fun l hl => by obtain ⟨a, e, q⟩ := Z.shun l hl; exact ⟨a, e, .inl q⟩
  apart := fun c hc hh => by
    rcases hc with hc | rfl <;> rcases hh with hh | hh
    · exact Z.apart c hc hh
    · exact h1 c hc hh
    · exact h2 hh
    · exact h4 hh
def newOwn (N : Nat) (k : Nat) : Nat × Nat := if k = N + 1 + 1 then (0, 1) else if k = N + 1 then (0, 2) else if k = N then (0, 4) else (0, 0)
def newSy (N : Nat) (fdo : Value) : Sy := ⟨N + 1 + 1, N, N + 1, fdo, false, [], newOwn N⟩
theorem newOwn_old {N k : Nat} (h : k < N) : newOwn N k = (0, 0) := by
  unfold newOwn
  rw [if_neg (by omega), if_neg (by omega), if_neg (by omega)]
theorem newOwn_far {N k : Nat} (h : N + 1 + 1 + 1 ≤ k) : newOwn N k = (0, 0) := by
  unfold newOwn
  rw [if_neg (by omega), if_neg (by omega), if_neg (by omega)]
theorem mk_quit (u : World) : (Instr.makeChan 42 (.int .i64 0)).run Try.prog u = .ok (.chan (some u.heap.size)) (u.alloc (.chan 0 #[] false 0 0 false)) := mk_chan Try.underlying42 (by kernel_rfl) u
section
variable {Z : Scene} {n : Nat} {w : World} {Post : Value → World → Prop} {h : Nat} {c : Frame} {cs : List Frame}
theorem newSy_cells (N : Nat) (f : Value) : (newSy N f).cells 0 = #[f, .int .i32 0, .int .u32 0, .map (some N), .chan (some (N + 1)), .int .u64 0, .int .u32 0, .bool false] := by
  simp [newSy, Sy.cells]
set_option maxRecDepth 50000 in
set_option maxHeartbeats 2000000 in
theorem new_run {ft : Fn} {fr caps : Array Value} (hI : ∀ i, Z.Inb i = none) (hn : 0 < n)
    (H : ∀ Z' w', Rep Z' n none w' (newSy w.heap.size (.func ft fr caps)) 0 → Kept noneS w w' → w'.heap.size = w.heap.size + 1 + 1 + 1 → Z'.Sh = Z.Sh → (∀ k, k < w.heap.size → (Z'.Hd k ↔ Z.Hd k) ∧ (Z'.C k ↔ Z.C k)) → Run Try.prog Post Z' n h 0 (G (c.finish (.pointer (some ⟨w.heap.size + 1 + 1, 0, none⟩))) cs) w') :
    Run Try.prog Post Z n h 0 (G ((base 6).at { tmps := #[(.func ft fr caps)] ++ Array.replicate (Try.f6.ntmps - 1) undef, defers := [] } [.code (Try.f6.body.getD .skip)]) (c :: cs)) w := by
  refine Run.okG fun hok => ?_
  have f0 : ¬ Z.Hd w.heap.size := hok.fresh (Nat.le_refl _)
  have f1 : ¬ Z.Hd (w.heap.size + 1) := hok.fresh (by omega)
  have f2 : ¬ Z.Hd (w.heap.size + 1 + 1) := hok.fresh (by omega)
  have hcl : ∀ c, Z.C c → c < w.heap.size := fun c hc => hok.chanlt hc
  simp only [Try.ntmps6]
  try simp only [Act.put, Act.eval, nrmL, Nat.reduceAdd, Nat.reduceSub]
  simp only [Try.f6, Option.getD_some]
  repeat (first
    | refine Run.auto rfl ?_
    | ((first | (refine Run.quietop rfl rfl rfl (by decide) ?_ ?_; (focus (intro w₁; simp [go_sem]; done)); intro w₁ K hK; go_simp; refine hK _ ?_; clear hK K w₁) | (refine Run.lookq theEnv rfl rfl rfl (by decide) rfl (fun _ _ q => by cases q) ?_; apply Exists.intro; apply And.intro; (focus (intro w; apply run_eq_of'; intro K hK; go_simp; exact hK))) | (refine Run.len theEnv rfl rfl (by decide) rfl rfl (by kernel_rfl) ?_) | (refine Run.not rfl rfl ?_)); try simp only [Act.put, Act.eval, nrmL, Nat.reduceAdd])
    | (refine Run.ctl (fun _ => stepG_region) rfl ?_; simp only [nrmL, Nat.reduceAdd, Nat.zero_add, List.range, List.range.loop])
    | (refine Run.ctl (fun _ => stepG_cond (t := true) rfl) rfl ?_; simp only [if_true])
    | (refine Run.ctl (fun _ => stepG_cond (t := false) rfl) rfl ?_; simp only [Bool.false_eq_true, if_false])
    | refine Run.ctl (fun _ => stepG_ret') rfl ?_
    | refine Run.ctl (fun _ => stepG_end) rfl ?_)
  refine Run.made theEnv rfl rfl (by decide) rfl (fun _ _ q => by cases q) (.map (some w.heap.size)) (.map #[] 0) (fun u _ hus => by have e0 : (Instr.makeMap 41 none).run Try.prog u = .ok (.map (some w.heap.size)) (u.alloc (.map #[] 0)) := (by rw [← hus]; rfl); go_simp) f0 ?_
  try simp only [Act.put, Act.eval, nrmL, Nat.reduceAdd]
  refine Run.made theEnv rfl rfl (by decide) rfl (fun _ _ q => by cases q) (.chan (some (w.heap.size + 1))) (.chan 0 #[] false 0 0 false) (fun u _ hus => by have e2 := mk_quit u; simp at hus; rw [hus] at e2; go_simp) (by simpa using f1) ?_
  try simp only [Act.put, Act.eval, nrmL, Nat.reduceAdd]
  (refine Run.quietop rfl rfl rfl (by decide) ?_ ?_; (focus (intro w₁; simp [go_sem]; done)); intro w₁ K hK; go_simp; refine hK _ ?_; clear hK K w₁; try simp only [Act.put, Act.eval, nrmL, Nat.reduceAdd])
  refine Run.made theEnv rfl rfl (by decide) rfl (fun _ _ q => by cases q) (.pointer (some ⟨w.heap.size + 1 + 1, 0, none⟩)) (.cells ((newSy w.heap.size (.func ft fr caps)).cells 0) 58) (fun u _ hus => by simp at hus; rw [newSy_cells]; go_simp) (by simpa using f2) ?_
  try simp only [Act.put, Act.eval, nrmL, Nat.reduceAdd]
  repeat (first
    | refine Run.auto rfl ?_
    | ((first | (refine Run.quietop rfl rfl rfl (by decide) ?_ ?_; (focus (intro w₁; simp [go_sem]; done)); intro w₁ K hK; go_simp; refine hK _ ?_; clear hK K w₁) | (refine Run.lookq theEnv rfl rfl rfl (by decide) rfl (fun _ _ q => by cases q) ?_; apply Exists.intro; apply And.intro; (focus (intro w; apply run_eq_of'; intro K hK; go_simp; exact hK))) | (refine Run.len theEnv rfl rfl (by decide) rfl rfl (by kernel_rfl) ?_) | (refine Run.not rfl rfl ?_)); try simp only [Act.put, Act.eval, nrmL, Nat.reduceAdd])
    | (refine Run.ctl (fun _ => stepG_region) rfl ?_; simp only [nrmL, Nat.reduceAdd, Nat.zero_add, List.range, List.range.loop])
    | (refine Run.ctl (fun _ => stepG_cond (t := true) rfl) rfl ?_; simp only [if_true])
    | (refine Run.ctl (fun _ => stepG_cond (t := false) rfl) rfl ?_; simp only [Bool.false_eq_true, if_false])
    | refine Run.ctl (fun _ => stepG_ret') rfl ?_
    | refine Run.ctl (fun _ => stepG_end) rfl ?_)
  refine Run.leave1 rfl rfl Try.func6 (by rfl) ?_
  try rw [Frame.finish_at]
  try simp only [Act.put, Act.eval, nrmL, Nat.reduceAdd]
  have e1 : (w.alloc (.map #[] 0)).heap.size = w.heap.size + 1 := by simp
  have e2 : ((w.alloc (.map #[] 0)).alloc (.chan 0 #[] false 0 0 false)).heap.size = w.heap.size + 1 + 1 := by simp
  have hk : Kept noneS w (((w.alloc (.map #[] 0)).alloc (.chan 0 #[] false 0 0 false)).alloc (.cells ((newSy w.heap.size (.func ft fr caps)).cells 0) 58)) := (((Kept.refl _ _).alloc _).alloc _).alloc _
  have hM : IMap (((w.alloc (.map #[] 0)).alloc (.chan 0 #[] false 0 0 false)).alloc (.cells ((newSy w.heap.size (.func ft fr caps)).cells 0) 58)) w.heap.size [] := (IMap.made w).keep (((Kept.refl (fun _ => False) (w.alloc (.map #[] 0))).alloc (.chan 0 #[] false 0 0 false)).alloc (.cells ((newSy w.heap.size (.func ft fr caps)).cells 0) 58)) fun q => q
  have hQ : Opn (((w.alloc (.map #[] 0)).alloc (.chan 0 #[] false 0 0 false)).alloc (.cells ((newSy w.heap.size (.func ft fr caps)).cells 0) 58)) (w.heap.size + 1) := ⟨0, by
    rw [Below.heap_alloc _ _ _ (by omega), ← e1, heap_alloc_new]⟩
  have hB : Blk (((w.alloc (.map #[] 0)).alloc (.chan 0 #[] false 0 0 false)).alloc (.cells ((newSy w.heap.size (.func ft fr caps)).cells 0) 58)) (w.heap.size + 1 + 1) 58 ((newSy w.heap.size (.func ft fr caps)).cells 0) := by
    have := heap_alloc_new ((w.alloc (.map #[] 0)).alloc (.chan 0 #[] false 0 0 false)) (.cells ((newSy w.heap.size (.func ft fr caps)).cells 0) 58)
    rw [e2] at this
    exact this
  have hsz : (((w.alloc (.map #[] 0)).alloc (.chan 0 #[] false 0 0 false)).alloc (.cells ((newSy w.heap.size (.func ft fr caps)).cells 0) 58)).heap.size = w.heap.size + 1 + 1 + 1 := by simp
  generalize ((w.alloc (.map #[] 0)).alloc (.chan 0 #[] false 0 0 false)).alloc (.cells ((newSy w.heap.size (.func ft fr caps)).cells 0) 58) = w' at *
  refine Run.scene (Z' := Z.sys (w.heap.size + 1 + 1) (w.heap.size + 1) (fun c hc => by have := hcl c hc; omega) f1 (by omega)) rfl rfl (fun ho => ⟨fun b o hb => ho.obj b o fun q => hb (.inl q), fun b hb => ?_, fun c hc => ?_⟩) ?_
  · rcases hb with hb | rfl
    · exact ho.hid b hb
    · exact ⟨_, rfl, hB⟩
  · rcases hc with hc | rfl
    · exact ho.chan c hc
    · obtain ⟨k, q⟩ := hQ
      exact ⟨_, rfl, q⟩
  · refine H _ w' ⟨hB, hM, fun e he => (nomatch he), List.nodup_nil, fun e he => (nomatch he), ?_, ?_, ?_, fun _ => ⟨hQ, .inr rfl⟩, .inr rfl, fun e he => (nomatch he), fun k hk4 => ?_, fun e he => (nomatch he), fun _ => rfl, ?_, fun a ha => ⟨fun e he => (nomatch he), fun hb => ?_⟩, fun j d q => (nomatch q), hn, fun k hkk => newOwn_far (by omega)⟩ hk hsz rfl fun k hkl => ⟨⟨fun q => ?_, .inl⟩, ⟨fun q => ?_, .inl⟩⟩
    · show newOwn w.heap.size (w.heap.size + 1 + 1) = (0, 1)
      unfold newOwn
      rw [if_pos rfl]
    · show newOwn w.heap.size (w.heap.size + 1) = (0, 2)
      unfold newOwn
      rw [if_neg (by omega), if_pos rfl]
    · show newOwn w.heap.size w.heap.size = (0, 4)
      unfold newOwn
      rw [if_neg (by omega), if_neg (by omega), if_pos rfl]
    · replace hk4 : 4 ≤ (newOwn w.heap.size k).2 := hk4
      unfold newOwn at hk4
      have hkw : k = w.heap.size := by
        split at hk4
        · simp at hk4
        · split at hk4
          · simp at hk4
          · split at hk4
            · assumption
            · simp at hk4
      subst hkw
      exact ⟨fun q => by rcases q with q | q; exact f0 q; omega, fun q => by rcases q with q | q; have := hcl _ q; omega; omega⟩
    · funext i
      exact hI i
    · obtain ⟨a', ha', hh⟩ := Z.shun _ ha
      cases ha'
      rw [show a.block = w.heap.size + 1 + 1 from hb] at hh
      exact absurd hh f2
    · rcases q with q | q
      · exact q
      · omega
    · rcases q with q | q
      · exact q
      · omega
end
end Go.Proofs.Ytfgpnfboolbbbaa
