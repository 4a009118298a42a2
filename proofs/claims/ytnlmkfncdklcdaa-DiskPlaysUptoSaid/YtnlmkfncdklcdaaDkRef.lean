/-
  The document's Disk in memory: warrenref11.Disk; Used, Find.
-/
import Derived.Test.YtnlmkfncdklcdaaDkRow3
import Derived.Test.YtnlmkfncdklcdaaDkCut
namespace Go.Proofs.Ytnlmkfncdklcdaa
open Go.RowKit

/-- Whose a block of the document's disk is. -/
inductive RTag where
  | out
  | hdr
  | fs
  | pd
  | fd (nm : List UInt8)

abbrev RF := FileS × Value
def tF : Three RF := ⟨fun p => .string p.1.name, fun p => p.2, fun p => .int .i64 (p.1.safe.length : Int)⟩
def tW : Three WrS := ⟨fun x => .string x.name, fun x => .int .i64 (x.off : Int), fun x => .int .i64 (x.data.length : Int)⟩
theorem infoRF : (Try.prog.info? 58).map (fun i => (i.zero, i.size, i.bytes)) = some (some (.agg #[.string ⟨#[]⟩, .slice none 0 0, .int .i64 0]), 3, 48) := by kernel_rfl
theorem infoRW : (Try.prog.info? 84).map (fun i => (i.zero, i.size, i.bytes)) = some (some (.agg #[.string ⟨#[]⟩, .int .i64 0, .int .i64 0]), 3, 32) := by kernel_rfl

structure ROpen (w : World) (tag : Nat → RTag) (fv pv : Value) (l : List RF) (q : Nat) (s : DiskS) : Prop where
  old : ∀ k, tag k ≠ .out → k < w.heap.size
  tq : tag q = .hdr
  blk : Blk w q 54 #[fv, pv, .int .i64 s.room]
  frow : Own w 58 3 (fun k => tag k = .fs) fv l.length (tF.fl l)
  fls : l.map (·.1) = s.files
  fat : ∀ p ∈ l, p.1.name.size ≤ 140737488351232 ∧ OB w (fun k => tag k = .fd p.1.key) p.2 p.1.data
  prow : Own w 84 3 (fun k => tag k = .pd) pv s.pend.length (tW.fl s.pend)
  pat : ∀ x ∈ s.pend, x.name.size ≤ 140737488351232 ∧ x.off ≤ 140737488355328 ∧ x.data.length ≤ 140737488355328
  room : -9223372036854775808 ≤ s.room ∧ s.room ≤ 9223372036854775807

/-- The document's disk at q, all its blocks are of G. -/
def RAt (w : World) (G : Nat → Prop) (q : Nat) (s : DiskS) : Prop := ∃ tag fv pv l, (∀ k, G k ↔ tag k ≠ .out) ∧ ROpen w tag fv pv l q s

section
variable {w w' : World} {tag tag' : Nat → RTag} {fv pv : Value} {l : List RF} {q : Nat} {s : DiskS} {S G : Nat → Prop}
theorem ROpen.at_ (h : ROpen w tag fv pv l q s) : RAt w (fun k => tag k ≠ .out) q s := ⟨tag, fv, pv, l, fun _ => Iff.rfl, h⟩
theorem ROpen.atG (h : ROpen w tag fv pv l q s) (hG : ∀ k, G k ↔ tag k ≠ .out) : RAt w G q s := ⟨tag, fv, pv, l, hG, h⟩
theorem ROpen.keep (h : ROpen w tag fv pv l q s) (hk : Kept S w w') (hd : ∀ k, S k → tag k = .out) : ROpen w' tag fv pv l q s := by
  have hn : ∀ k t, tag k = t → t ≠ .out → ¬ S k := fun k t e ne a => ne (e.symm.trans (hd k a))
  exact ⟨fun k a => Nat.lt_of_lt_of_le (h.old k a) hk.size, h.tq, h.blk.keep hk (hn q _ h.tq (by simp)), h.frow.keep hk (fun k _ a b => hn k _ a (by simp) b), h.fls, fun p hp => ⟨(h.fat p hp).1, Own.keep (h.fat p hp).2 hk (fun k _ a b => hn k _ a (by simp) b)⟩, h.prow.keep hk (fun k _ a b => hn k _ a (by simp) b), h.pat, h.room⟩
theorem ROpen.retag (h : ROpen w tag fv pv l q s) (ht : ∀ k, tag k ≠ .out → tag' k = tag k) (ho : ∀ k, tag' k ≠ .out → k < w.heap.size) : ROpen w tag' fv pv l q s :=
  ⟨ho, (ht q (by rw [h.tq]; simp)).trans h.tq, h.blk, h.frow.mono (fun k _ a => (ht k (by rw [a]; simp)).trans a), h.fls, fun p hp => ⟨(h.fat p hp).1, Own.mono (h.fat p hp).2 (fun k _ a => (ht k (by rw [a]; simp)).trans a)⟩, h.prow.mono (fun k _ a => (ht k (by rw [a]; simp)).trans a), h.pat, h.room⟩
theorem RAt.open_ (h : RAt w G q s) : ∃ tag fv pv l, (∀ k, G k ↔ tag k ≠ .out) ∧ ROpen w tag fv pv l q s := h
theorem RAt.lt (h : RAt w G q s) : ∀ k, G k → k < w.heap.size := by
  obtain ⟨tag, fv, pv, l, hG, ho⟩ := h
  exact fun k a => ho.old k ((hG k).1 a)
theorem RAt.keep (h : RAt w G q s) (hk : Kept S w w') (hd : ∀ k, G k → S k → False) : RAt w' G q s := by
  obtain ⟨tag, fv, pv, l, hG, ho⟩ := h
  exact ⟨tag, fv, pv, l, hG, ho.keep hk (fun k a => by
    by_cases e : tag k = .out
    · exact e
    · exact (hd k ((hG k).2 e) a).elim)⟩
/-- The number of octets is no part of it. -/
theorem RAt.setU (h : RAt w G q s) (u : Int) : RAt w G q (s.setU u) := by
  obtain ⟨tag, fv, pv, l, hG, ho⟩ := h
  exact ⟨tag, fv, pv, l, hG, ⟨ho.old, ho.tq, ho.blk, ho.frow, ho.fls, ho.fat, ho.prow, ho.pat, ho.room⟩⟩
theorem RAt.like {s' : DiskS} (h : RAt w G q s) (h1 : s'.files = s.files) (h2 : s'.pend = s.pend) (h3 : s'.room = s.room) : RAt w G q s' := by
  have e : s' = s.setU s'.used := by
    cases s
    cases s'
    simp_all [DiskS.setU]
  rw [e]
  exact h.setU _
end

def sumF (l : List FileS) : Nat := (l.map fun f => f.data.length).sum
theorem sumF_snoc (l : List FileS) (f : FileS) : sumF (l ++ [f]) = sumF l + f.data.length := by simp [sumF]
theorem wrap_add (a b : Int) : wrap64 (wrap64 a + b) = wrap64 (a + b) := by unfold wrap64; omega

set_option maxHeartbeats 800000 in
theorem refUsed (G : Nat → Prop) (q : Nat) (s : DiskS) (w : World) (h : RAt w G q s) : Calls Try.prog 18 #[.pointer (some ⟨q, 0, none⟩)] w fun e w' => e = .returned (.int .i64 (wrap64 (sumF s.files : Int))) ∧ w = w' := by
  obtain ⟨tag, fv, pv, l, _, ho⟩ := h
  have hsum : sumF s.files = sumF (l.map (·.1)) := by rw [ho.fls]
  rw [hsum]
  obtain ⟨A, c, rfl, hc, hm, _⟩ := Own.form ho.frow
  have c0 : w.cell? ⟨q, 0, none⟩ = some (.slice A l.length c) := ho.blk.cell 0
  have hlm : l.length ≤ 9223372036854775807 := by unfold maxLen at hm; omega
  have HO := Lib.hid ho
  obtain ⟨r, HR⟩ : ∃ r, Hid (wrap64 (sumF (l.map (·.1)) : Int) = r) := ⟨_, Lib.hid rfl⟩
  rw [HR.out]
  clear ho hsum
  go_enter Try.func18, Try.ntmps18
  go_wp2
  go_loopw [3, 4] (fun v i wr => ∃ j : Nat, j ≤ l.length ∧ i = .int .i64 j ∧ v = .int .i64 (wrap64 (sumF ((l.take j).map (·.1)) : Int)) ∧ w = wr) (fun _ i _ => l.length - (intOf i).toNat)
  case atStart => exact ⟨0, Nat.zero_le _, rfl, by simp [sumF, wrap64], rfl⟩
  case round =>
    obtain ⟨j, hj, rfl, rfl, rfl⟩ := hrel
    by_cases hlt : j < l.length
    · obtain ⟨g, rfl, _, _, q1, _⟩ := Own.at3 HO.out.frow hlt
      obtain ⟨A1, c1, e1, _⟩ := Own.form (HO.out.fat l[j] (List.getElem_mem hlt)).2
      have q1' : w.cell? ⟨g, j * 3 + 1, none⟩ = some (.slice A1 l[j].1.data.length c1) := q1.trans (congrArg some e1)
      have hts : sumF ((l.take (j + 1)).map (·.1)) = sumF ((l.take j).map (·.1)) + l[j].1.data.length := by
        rw [List.take_succ_eq_append_getElem hlt, List.map_append]
        exact sumF_snoc _ _
      have HTs := Lib.hid hts
      have hji : (j : Int) < (l.length : Int) := by omega
      have hj0 : (0 : Int) ≤ (j : Int) := by omega
      clear q1 hts e1
      generalize l[j].1.data.length = n at *
      go_wp2
      go_roundw
      case rel =>
        refine ⟨j + 1, by omega, by go_num, ?_, by trivial⟩
        rw [HTs.out, Int.natCast_add, List.map_take]
        congr 1
        unfold wrap64
        omega
      case measure => simp [intOf]; omega
    · obtain rfl : j = l.length := by omega
      rw [List.take_length]
      go_wp2
      go_ret
      exact ⟨by rw [← HR.out]; rfl, rfl⟩

/-- A file's place. -/
def placeOf (nm : List UInt8) (l : List FileS) : Nat := l.findIdx fun f => f.key == nm
def findI (nm : List UInt8) (l : List FileS) : Int := if placeOf nm l < l.length then (placeOf nm l : Int) else -1

set_option maxHeartbeats 800000 in
theorem refFind (G : Nat → Prop) (q : Nat) (s : DiskS) (nm : ByteArray) (w : World) (h : RAt w G q s) : Calls Try.prog 36 #[.pointer (some ⟨q, 0, none⟩), .string nm] w fun e w' => e = .returned (.int .i64 (findI nm.toList s.files)) ∧ w = w' := by
  obtain ⟨tag, fv, pv, l, _, ho⟩ := h
  obtain ⟨A, c, rfl, hc, hm, _⟩ := Own.form ho.frow
  have c0 : w.cell? ⟨q, 0, none⟩ = some (.slice A l.length c) := ho.blk.cell 0
  have hlm : l.length ≤ 9223372036854775807 := by unfold maxLen at hm; omega
  have HO := Lib.hid ho
  have hfl : findI nm.toList (l.map (·.1)) = findI nm.toList s.files := by rw [ho.fls]
  obtain ⟨r, HR⟩ : ∃ r, Hid (findI nm.toList (l.map (·.1)) = r) := ⟨_, Lib.hid rfl⟩
  rw [← hfl, HR.out]
  clear ho hfl
  go_enter Try.func36, Try.ntmps36
  go_wp2
  go_loopw [4, 5] (fun v i wr => ∃ j : Nat, j ≤ l.length ∧ i = .int .i64 j ∧ v = .int .i64 0 ∧ Hid (∀ k (h : k < l.length), k < j → (l[k].1.key == nm.toList) = false) ∧ w = wr) (fun _ i _ => l.length - (intOf i).toNat)
  case atStart => exact ⟨0, Nat.zero_le _, rfl, rfl, Lib.hid (fun k _ a => absurd a (Nat.not_lt_zero _)), rfl⟩
  case round =>
    obtain ⟨j, hj, rfl, rfl, HE, rfl⟩ := hrel
    by_cases hlt : j < l.length
    · obtain ⟨g, rfl, _, q0, _, _⟩ := Own.at3 HO.out.frow hlt
      have q0' : w.cell? ⟨g, j * 3, none⟩ = some (.string l[j].1.name) := q0
      have hji : (j : Int) < (l.length : Int) := by omega
      have hj0 : (0 : Int) ≤ (j : Int) := by omega
      have hk : l[j].1.key = l[j].1.name.toList := rfl
      have HJ : Hid (∀ b, (l[j].1.key == nm.toList) = b → ∀ k (h : k < l.length), k = j → (l[k].1.key == nm.toList) = b) := Lib.hid (fun b e k h a => by subst a; exact e)
      have hfix : (l[j].1.key == nm.toList) = true → findI nm.toList (l.map (·.1)) = j := fun a => by
        have : placeOf nm.toList (l.map (·.1)) = j := by
          unfold placeOf
          refine (List.findIdx_eq (by simpa using hlt)).2 ⟨by simpa using a, fun k hk => ?_⟩
          have := HE.out k (by omega) hk
          simpa using this
        unfold findI
        rw [this, if_pos (by simpa using hlt)]
      have HF := Lib.hid hfix
      rw [hk] at HF HJ
      clear q0 hfix hk
      generalize l[j].1 = x at *
      rcases hmt : (x.name.toList == nm.toList) with _ | _
      · have hj := HJ.out false hmt
        have HJ' := Lib.hid hj
        clear hj
        go_wp2
        go_roundw
        case rel => exact ⟨j + 1, by omega, by go_num, rfl, Lib.hid (fun k h a => by
          by_cases e : k = j
          · exact HJ'.out k h e
          · exact HE.out k h (by omega)), by trivial⟩
        case measure => simp [intOf]; omega
      · have hf := HF.out hmt
        have hr := HR.out
        rw [hf] at hr
        subst hr
        clear hf HF
        go_wp2
        go_ret
        exact ⟨rfl, rfl⟩
    · obtain rfl : j = l.length := by omega
      have hf : placeOf nm.toList (l.map (·.1)) = (l.map (·.1)).length := List.findIdx_eq_length.2 (fun p hp => by
        obtain ⟨k, hk, rfl⟩ := List.mem_iff_getElem.1 hp
        have hk' : k < l.length := by simpa using hk
        rw [List.getElem_map]
        exact HE.out k hk' hk')
      have hr := HR.out
      unfold findI at hr
      rw [hf, if_neg (Nat.lt_irrefl _)] at hr
      subst hr
      clear hf
      go_wp2
      go_ret
      exact ⟨rfl, rfl⟩

end Go.Proofs.Ytnlmkfncdklcdaa
