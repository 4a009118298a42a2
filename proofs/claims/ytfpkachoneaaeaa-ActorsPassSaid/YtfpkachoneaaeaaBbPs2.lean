/-
  ActorsPass: a Run of the client's, with the closure that hands the item on.
-/
import Derived.Test.YtfpkachoneaaeaaBbPs
set_option linter.unusedSimpArgs false
set_option linter.unusedVariables false
namespace Go.Proofs.Ytfpkachoneaaeaa
open Go Go.Conc Go.RowKit
/-- What becomes of the mail, where actor id does the item x. -/
def passA (l : Ab) (id nx : Int) : List UInt8 → Ab
  | [] => takeA l id
  | _ :: r => (putA (takeA l id) nx r).1
section
variable {w0 w : World} {Z : Scene} {n : Nat} {s : Sy} {Post : Value → World → Prop} {c : Frame} {cs : List Frame}
set_option maxHeartbeats 1000000 in
theorem cli_pass (K : Cli w0 Z n w s) {D V Gb m rg id : Nat} (cD : Cel w (space w0 Z s) D 3 (.int .i64 (m : Int))) (cV : Cel w (space w0 Z s) V 25 (.pointer (some ⟨s.S, 0, none⟩))) (cG : Cel w (space w0 Z s) Gb 3 (.int .i64 (rg : Int)))
    (hDV : V ≠ D) (hDG : Gb ≠ D) (hm : m < 1000) (hrg : 0 < rg) (hrg8 : rg ≤ 8) (hid : id < 8) (hdo : s.fdo = .func (.func 12) #[] #[.pointer (some ⟨D, 0, none⟩), .pointer (some ⟨V, 0, none⟩), .pointer (some ⟨Gb, 0, none⟩)]) (hst : s.stopped = false)
    {x : List UInt8} (hf : s.abs.find? (fun p => p.1 == (id : Int)) = some ((id : Int), [x])) (hx31 : x.length ≤ 31) (hlen : s.abs.length < 1000) (hpost : ∀ b r, x = b :: r → (putA (takeA s.abs id) (((id + 1) % rg : Nat) : Int) r).2 = true)
    (H : ∀ Z' n' s' w', Cli w0 Z' n' w' s' → s'.abs = passA s.abs id (((id + 1) % rg : Nat) : Int) x → s'.stopped = false → s'.S = s.S → s'.fdo = s.fdo → n' ≤ n + 1 → Cel w' (space w0 Z' s') D 3 (.int .i64 ((m : Int) + 1)) → Cel w' (space w0 Z' s') V 25 (.pointer (some ⟨s.S, 0, none⟩)) → Cel w' (space w0 Z' s') Gb 3 (.int .i64 (rg : Int)) → Run Try.prog Post Z' n' 0 0 (G (c.finish (.bool true)) cs) w') :
    Run Try.prog Post Z n 0 0 (G ((base 14).at { tmps := #[.pointer (some ⟨s.S, 0, none⟩), .int .i64 (id : Int)] ++ Array.replicate (Try.f14.ntmps - 2) undef, defers := [] } [.code (Try.f14.body.getD .skip)]) (c :: cs)) w := by
  refine Run.okG fun hok => ?_
  obtain ⟨e, he, hide, hil⟩ := Sy.ent_abs hf
  obtain ⟨i, hi, hib⟩ : ∃ i, e.items = [i] ∧ i.bs = x := by
    cases hq : e.items with
    | nil => rw [hq] at hil; cases hil
    | cons i ir =>
      rw [hq] at hil
      injection hil with a b
      cases ir with
      | nil => exact ⟨i, rfl, a⟩
      | cons j jr => cases b
  have hx := (Sy.ent_some he).1
  have hE := K.rep.ents e hx
  have hpo : ∀ k, s.own k = (0, 0) → (s.popped e i).own k = (0, 0) := fun k q => by
    show (if s.own k = _ then _ else s.own k) = _
    split
    · rfl
    · exact q
  have hpo2 : ∀ k, (s.popped e i).own k ≠ (0, 0) → s.own k ≠ (0, 0) := fun k q r => q (hpo k r)
  have hpab : (s.popped e i).abs = takeA s.abs id := by rw [K.rep.abs_popped hx, hide]
  have hpst : (s.popped e i).stopped = false := hst
  have hpA : ∀ y, postA (s.popped e i) (((id + 1) % rg : Nat) : Int) y = putA (takeA s.abs id) (((id + 1) % rg : Nat) : Int) y := fun y => by
    unfold postA
    rw [hpst, hpab]
    rfl
  have hel : (s.popped e i).ents.length < 2000000000 := by
    rw [← Sy.abs_len, hpab]
    unfold takeA
    rw [List.length_map]
    omega
  have dD := cD.blk.lt
  have dV := cV.blk.lt
  have dG := cG.blk.lt
  refine run_some K.rep id he hi hdo Try.func12 (by kernel_rfl) rfl (fun Z2 n2 s2 w2 => n2 ≤ n + 1 ∧ s2.S = s.S ∧ s2.fdo = s.fdo ∧ s2.stopped = false ∧ s2.abs = passA s.abs id (((id + 1) % rg : Nat) : Int) x ∧ (∀ k, k < w.heap.size → s.own k = (0, 0) → s2.own k = (0, 0)) ∧ (∀ k, k < w.heap.size → Z2.Hd k → Z.Hd k) ∧ (∀ k, k < w.heap.size → Z2.C k → Z.C k) ∧
      Blk w2 D 3 #[.int .i64 ((m : Int) + 1)] ∧ Blk w2 V 25 #[.pointer (some ⟨s.S, 0, none⟩)] ∧ Blk w2 Gb 3 #[.int .i64 (rg : Int)] ∧ Kept (fun k => s.own k ≠ (0, 0) ∨ k = D) w w2) ?_ ?_
  · intro Z1 w1 d c0 hHd hC hSh R1 k1 hS1 HB
    have hsz := k1.size
    have bD := cD.blk.keep k1 fun q => q cD.mem.2.1
    have bV := cV.blk.keep k1 fun q => q cV.mem.2.1
    have bG := cG.blk.keep k1 fun q => q cG.mem.2.1
    have hcore : ∃ e2 ∈ (s.popped e i).ents, e2.toCore1 = e.toCore1 := ⟨e.pop, Sy.setE_has (own' := s.own) hx rfl, rfl⟩
    rw [← hib] at hpost
    simp only [It.val, hide]
    refine ps1_run (Z := Z1) (hd := some (e.gi, d)) (s := s.popped e i) (h := e.gi) (c := c0) (cs := [botW]) (GF := fun k => s.own k = (e.gi, 5 + i.t)) R1 bD bV bG ⟨hpo D cD.mem.2.1, by rw [hHd]; exact cD.mem.2.2.1, by rw [hC]; exact cD.mem.2.2.2⟩ (by rw [hHd]; exact cV.mem.2.2.1) (by rw [hHd]; exact cG.mem.2.2.1) hDV hDG hm hrg hrg8 hid hS1 (by rw [hib]; exact hx31) ?_ hel (fun b r q => by rw [hpA]; exact hpost b r q) ?_ ?_
    · intro k hk q
      refine ⟨fun r => ?_, ?_⟩
      · have := cD.mem.2.1
        rw [r] at q
        rw [q] at this
        exact snd_ne this (by omega)
      · rw [hHd]
        exact (K.rep.vis k (by rw [q]; omega)).1
    · intro hb w2 R2 b2 k2
      refine HB Z1 n (s.popped e i) w2 R2 rfl rfl hcore ⟨by omega, rfl, rfl, hst, ?_, fun k _ q => hpo k q, fun k _ q => by rw [hHd] at q; exact q, fun k _ q => by rw [hC] at q; exact q, b2, bV.keep k2 hDV, bG.keep k2 hDG, (k1.mono fun k _ q => .inl q).trans2 k2 fun k _ q => .inr q⟩
      rw [hpab, ← hib, hb]
      rfl
    · intro b r hb Z2 n2 s2 w2 wm R2 ha hxx km bm hszm
      have hlt : ∀ k, k < w.heap.size → k < wm.heap.size := fun k hk => by omega
      refine HB Z2 n2 s2 w2 R2 hxx.S hxx.qc (hxx.cores e.pop (Sy.setE_has (own' := s.own) hx rfl)) ⟨hxx.n2, hxx.S, hxx.fdo, hxx.stopped.trans hst, ?_, fun k hk q => hxx.own k (hlt k hk) (hpo k q), fun k hk q => by have := (hxx.Hd k (hlt k hk)).1 q; rw [hHd] at this; exact this, fun k hk q => by have := (hxx.C k (hlt k hk)).1 q; rw [hC] at this; exact this,
        bm.keep hxx.kept fun q => q (hpo D cD.mem.2.1), (bV.keep km hDV).keep hxx.kept fun q => q (hpo V cV.mem.2.1), (bG.keep km hDG).keep hxx.kept fun q => q (hpo Gb cG.mem.2.1), ?_⟩
      · rw [ha, hpA, ← hib, hb]
        rfl
      · refine ((k1.mono fun k _ q => .inl q).trans2 km fun k _ q => .inr q).trans (hxx.kept.mono fun k _ q => .inl (hpo2 k q))
  · rintro Z2 n2 s2 w2 Z3 w3 ⟨hn2, hS2, hf2, hst2, ha2, ho2, hH2, hC2, b1, b2, b3, k2⟩ hH3 hC3 hSh3 R3 k3
    have hW : Left2 Z w s Z3 s2 := ⟨hS2, hf2, ho2, fun k hk q => by rw [hH3] at q; exact hH2 k hk q, fun k hk q => by rw [hC3] at q; exact hC2 k hk q⟩
    have hsp : ∀ k, k < w.heap.size → space w0 Z s k → space w0 Z3 s2 k := fun k hk q => hW.space hk q
    have hsz2 := k2.size
    have k23 : Kept (fun k => s.own k ≠ (0, 0) ∨ w0.heap.size ≤ k) w w3 := (k2.mono fun k _ q => q.imp (fun r => r) fun r => by rw [r]; exact cD.mem.1).trans2 k3 fun k hk q => by
      by_cases r : s.own k = (0, 0)
      · exact absurd (ho2 k hk r) q
      · exact .inl r
    refine H Z3 n2 s2 w3 (K.next R3 k23 (fun k q => q) hW) ha2 hst2 hS2 hf2 hn2 ⟨hsp D dD cD.mem, b1.keep k3 fun q => q (ho2 D dD cD.mem.2.1)⟩ ⟨hsp V dV cV.mem, b2.keep k3 fun q => q (ho2 V dV cV.mem.2.1)⟩ ⟨hsp Gb dG cG.mem, b3.keep k3 fun q => q (ho2 Gb dG cG.mem.2.1)⟩
end
end Go.Proofs.Ytfpkachoneaaeaa
