/-
  disk.Disk.forget.
-/
import Derived.Test.YtnlmkfncdklcdaaDkDel
namespace Go.Proofs.Ytnlmkfncdklcdaa
open Go.RowKit

/-- The pending writes of other files. -/
def notFor (nm : List UInt8) (x : WrS) : Bool := !(x.key == nm)
def DiskS.forget (s : DiskS) (nm : List UInt8) : DiskS := { s with pend := s.pend.filter (notFor nm) }

section
variable {w : World} {tag : Nat → DTag}
def WVAt (w : World) (tag : Nat → DTag) (p : WV) : Prop := p.1.name.size ≤ 140737488351232 ∧ p.1.off ≤ 140737488355328 ∧ SlAt w (fun k => tag k = .ro) p.2 p.1.data
theorem wv_of : ∀ (ps : List WrS) (css : List (List Value)), css.length = ps.length → (∀ j (h : j < ps.length) (h' : j < css.length), WrAt w tag ps[j] css[j]) → ∃ l : List WV, l.map (·.1) = ps ∧ css = l.map wvc ∧ ∀ p ∈ l, WVAt w tag p
  | [], [], _, _ => ⟨[], rfl, rfl, fun _ h => by cases h⟩
  | [], _ :: _, h, _ => by cases h
  | _ :: _, [], h, _ => by cases h
  | x :: ps, cs :: css, h, ha => by
    obtain ⟨l, h1, h2, h3⟩ := wv_of ps css (by simpa using h) (fun j a b => ha (j + 1) (by simpa using a) (by simpa using b))
    obtain ⟨g1, g2, v, g3, g4⟩ := ha 0 (by simp) (by simp)
    refine ⟨(x, v) :: l, by simp [h1], ?_, fun p hp => ?_⟩
    · rw [List.map_cons, ← h2]
      have : cs = wvc (x, v) := g3
      rw [this]
    · rcases List.mem_cons.1 hp with e | e
      · rw [e]
        exact ⟨g1, g2, g4⟩
      · exact h3 p e
theorem PendAt.wv {pv : Value} {ps : List WrS} (h : PendAt w tag pv ps) : ∃ A c, ∃ l : List WV, pv = .slice A l.length c ∧ l.map (·.1) = ps ∧ (A = none ∧ l = [] ∨ ∃ g, A = some ⟨g, 0, none⟩ ∧ WRow w g c l) ∧ (∀ k, A = some ⟨k, 0, none⟩ → tag k = .pd) ∧ l.length ≤ c ∧ c ≤ maxLen ∧ ∀ p ∈ l, WVAt w tag p := by
  obtain ⟨css, h1, h2, h3⟩ := h
  obtain ⟨l, e1, e2, e3⟩ := wv_of ps css h2 h3
  subst e1 e2
  rw [List.length_map] at h1
  obtain ⟨A, c, rfl, g1, g2, _⟩ := Own.form h1
  refine ⟨A, c, l, rfl, rfl, ?_, fun k q => ?_, g1, g2, e3⟩
  · rcases h1.1.2 with ⟨q, q2⟩ | ⟨g, c', cur, q, _, b1, b2, b3, b4, b5⟩
    · injection q with q
      exact .inl ⟨q, List.length_eq_zero_iff.1 q2⟩
    · injection q with q q1 q2
      subst q2
      exact .inr ⟨g, q, cur, b1, b4, b5⟩
  · exact h1.2 k (by rw [q]; rfl)
theorem PendAt.of_wv {A : Option Addr} {c : Nat} {l : List WV} (hA : A = none ∧ l = [] ∧ c = 0 ∨ ∃ g, A = some ⟨g, 0, none⟩ ∧ WRow w g c l) (ht : ∀ k, A = some ⟨k, 0, none⟩ → tag k = .pd) (hc : l.length ≤ c) (hm : c ≤ maxLen) (hv : ∀ p ∈ l, WVAt w tag p) : PendAt w tag (.slice A l.length c) (l.map (·.1)) := by
  refine ⟨l.map wvc, ?_, by simp, fun j a b => ?_⟩
  · rw [List.length_map]
    rcases hA with ⟨rfl, rfl, rfl⟩ | ⟨g, rfl, hr⟩
    · exact Own.nil _ _ _ _
    · exact hr.own hc hm (ht g rfl)
  · rw [List.getElem_map, List.getElem_map]
    have hj : j < l.length := by simpa using a
    obtain ⟨g1, g2, g3⟩ := hv l[j] (List.getElem_mem hj)
    exact ⟨g1, g2, _, rfl, g3⟩
end

theorem DOpen.atF {w : World} {F : Nat → Prop} {tag : Nat → DTag} {m : Nat} {pv : Value} {hb : List UInt8 → Nat} {p N : Nat} {s : DiskS} (h : DOpen w tag m pv hb p s N) (hF : ∀ k, F k ↔ tag k ≠ .out) : DAt w F p s N :=
  ⟨tag, m, pv, hb, hF, fun k q => h.old k ((hF k).1 q), h.tp, h.tm, h.blk, h.map, h.files, h.pend, h.room, h.used⟩

set_option maxHeartbeats 1600000 in
theorem diskForget (F : Nat → Prop) (p N : Nat) (s : DiskS) (nm : ByteArray) (w : World) (h : DAt w F p s N) :
    Calls Try.prog 39 #[.pointer (some ⟨p, 0, none⟩), .string nm] w fun e w' => e = .returned (.tuple #[]) ∧ DAt w' F p (s.forget nm.toList) N ∧ Kept F w w' := by
  obtain ⟨tag, m, pv, hbf, hF, ho⟩ := h.open_
  have ka : Kept noneS w (w.alloc (.cells #[.string nm] 9)) := (Kept.refl _ _).alloc _
  have ho1 := ho.keep ka (fun _ q => q.elim)
  have hb := Blk.new w 9 #[.string nm]
  obtain ⟨A, c, l, rfl, hps, hA, htg, hc, hm, hv⟩ := ho1.pend.wv
  have hAc : A = none → c = 0 := fun q => by
    obtain ⟨A', c', e, h1, h2⟩ := ho1.pend.form
    obtain ⟨css, g1, _⟩ := ho1.pend
    obtain ⟨A2, c2, e2, _, _, g2⟩ := Own.form g1
    injection e2 with e3 _ e4
    rw [e4]
    exact (g2 (by rw [← e3]; exact q)).2
  have c1 : (w.alloc (.cells #[.string nm] 9)).cell? ⟨p, 1, none⟩ = some (.slice A l.length c) := ho1.blk.cell 1
  have HO := Lib.hid ho1
  have HA := Lib.hid hA
  have HB := Lib.hid hb
  have HV := Lib.hid hv
  have HT := Lib.hid htg
  have HF := Lib.hid hF
  have KA := Lib.hid ka
  have HPs := Lib.hid hps
  have HAc := Lib.hid hAc
  clear h ho ka ho1 hb hA hv htg hF hps hAc
  go_enter Try.func39, Try.ntmps39
  go_wp2_with fail
  refine (deleteF nm w.heap.size A c l _ HA.out hc hm (fun p hp => ?_) HB.out).mono ?_
  · obtain ⟨_, _, B, n, e, _⟩ := HV.out p hp
    exact ⟨B, _, n, e⟩
  rintro e w2 ⟨rfl, hA2, k2⟩
  have hk2 : Kept (fun k => tag k = .pd) (w.alloc (.cells #[.string nm] 9)) w2 := k2.mono (fun k _ q => HT.out k q)
  have hp2 : PendAt w2 tag (.slice A (l.filter (notOf nm.toList)).length c) ((l.filter (notOf nm.toList)).map (·.1)) := by
    refine PendAt.of_wv ?_ HT.out (Nat.le_trans (List.length_filter_le _ _) hc) hm (fun p hp => ?_)
    · rcases hA2 with ⟨h1, h2⟩ | h
      · exact .inl ⟨h1, h2, HAc.out h1⟩
      · exact .inr h
    · obtain ⟨g1, g2, g3⟩ := HV.out p (List.mem_filter.1 hp).1
      exact ⟨g1, g2, g3.keep hk2 (fun k _ q e => by rw [e] at q; cases q)⟩
  have hfm : (l.filter (notOf nm.toList)).map (·.1) = s.pend.filter (notFor nm.toList) := by
    rw [← HPs.out, List.filter_map]
    rfl
  rw [hfm] at hp2
  have ho3 := HO.out.repend (tag' := tag) hk2 (fun _ _ => rfl) (fun k q => Nat.lt_of_lt_of_le (HO.out.old k q) hk2.size) hp2
  have f1 : w2.frozen? ⟨p, 1, none⟩ = false := (HO.out.blk.keep hk2 (fun q => by rw [HO.out.tp] at q; cases q)).frozen 1
  have f2 : w2.cell? ⟨p, 1, none⟩ = some (.slice A l.length c) := (HO.out.blk.keep hk2 (fun q => by rw [HO.out.tp] at q; cases q)).cell 1
  have HO3 := Lib.hid ho3
  have K3 := Lib.hid (((KA.out.mono (S' := F) (fun _ _ q => q.elim)).trans2 hk2 (fun k _ q => (HF.out k).2 (by rw [q]; simp))).setCell (p := ⟨p, 1, none⟩) (fun _ => (HF.out p).2 (by rw [HO.out.tp]; simp)) (.slice A (l.filter (notOf nm.toList)).length c))
  clear hA2 k2 hk2 hp2 hfm ho3
  go_wp2
  go_end0
  exact ⟨rfl, HO3.out.atF HF.out, K3.out⟩

end Go.Proofs.Ytnlmkfncdklcdaa
