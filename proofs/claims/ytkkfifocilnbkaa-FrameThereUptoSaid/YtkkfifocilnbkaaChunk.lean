/-
  slices.Chunk at octets, as a range over a function.
-/
import Derived.RangeFuncNested
import Derived.RangeFuncBound
import Derived.RangeFuncCalls
import Derived.RangeFuncLeaves
import Derived.RangeFuncBox
import Derived.RangeFuncWrites
import Derived.Shelf.Abstract
import Derived.Shelf.RegionOpen
import Derived.WalkKit
import Derived.OwnWalkIn
import Derived.TacticsInMore
import Derived.LoopNIn
import Derived.LoopIn
import Derived.Test.YtkkfifocilnbkaaFrame1
namespace Go.Proofs.Ytkkfifocilnbkaa
open Go.RowKit Go.Shelf

attribute [local go_sem] Oper.semAt_some

/-- The k-th piece. -/
def piece (g o len sz k : Nat) : Value := .slice (some ⟨g, o + k * sz, none⟩) (min sz (len - k * sz)) (min sz (len - k * sz))
/-- What a round keeps: all old blocks but one. -/
def KpBut (n₀ b : Nat) (A B : World) : Prop := ∀ k, k < n₀ → k ≠ b → B.heap[k]? = A.heap[k]?
theorem KpBut.refl (n₀ b : Nat) (A : World) : KpBut n₀ b A A := fun _ _ _ => rfl
theorem KpBut.trans {n₀ b : Nat} {A B C : World} (h : KpBut n₀ b A B) (k : KpBut n₀ b B C) : KpBut n₀ b A C := fun i h1 h2 => (k i h1 h2).trans (h i h1 h2)
theorem KpBut.cell {n₀ b : Nat} {A B : World} (h : KpBut n₀ b A B) {p : Addr} (hp : p.block < n₀) (hb : p.block ≠ b) : B.cell? p = A.cell? p := World.cell?_of_block (h p.block hp hb)

abbrev Below? (N : Nat) := { k : Nat // k < N }

set_option maxRecDepth 100000 in
set_option maxHeartbeats 2000000 in
theorem chunk1 (n : Nat) (hn : 1 ≤ n) (l Bs Bn n₀ ob g o len cap sz N : Nat) (hcap : len ≤ cap) (hlen : len ≤ 140737488355328) (hsz : 1 ≤ sz) (hsz2 : sz ≤ 4611686018427387904) (hN : ∀ k, k < N ↔ k * sz < len) (hBs : Bs < n₀) (hBn : Bn < n₀) (hob1 : Bs ≠ ob) (hob2 : Bn ≠ ob)
    (J Jx : List (Below? N) → World → Prop) (hJd : ∀ pre W, J pre W → J pre W.drew)
    (hY : ∀ pre x W, J pre W → pre.length < N → YieldAt Fence.wide (n - 1) Try.prog l #[piece g o len sz x.1] W fun e W' =>
      (e = .returned (.bool true) ∧ J (pre ++ [x]) W' ∧ KpBut n₀ ob W W') ∨ (e = .returned (.bool false) ∧ Jx (pre ++ [x]) W'))
    (W : World) (hs : W.cell? ⟨Bs, 0, none⟩ = some (.slice (some ⟨g, o, none⟩) len cap)) (hnn : W.cell? ⟨Bn, 0, none⟩ = some (.int .i64 sz)) (h0 : J [] W) :
    CallsIn Fence.wide n Try.prog 45 #[.func (.yield l) #[] #[], .pointer (some ⟨Bs, 0, none⟩), .pointer (some ⟨Bn, 0, none⟩)] W fun e W' => (∃ v, e = .returned v) ∧
      ((∃ ys : List (Below? N), ys.map (·.1) = List.range N ∧ J ys W') ∨ (∃ pre, (True) ∧ Jx pre W')) := by
  refine callsIn_of_wp Try.func45 rfl trivial ?_ rfl
  simp only [Try.ntmps45, List.size_toArray, List.length_cons, List.length_nil, Nat.reduceAdd, Nat.reduceSub, Array.replicate_succ, Array.replicate_zero, List.push_toArray, List.append_toArray, List.nil_append, List.cons_append]
  have hmx : Try.prog.follows .mixedOrders = true := by kernel_rfl
  gi_wp2
  gi_loopw [4] (fun i wr => ∃ (k : Nat) (pre : List (Below? N)), k ≤ N ∧ i = .int .i64 ((k * sz : Nat) : Int) ∧ Hid (pre.map (·.1) = List.range k) ∧ J pre wr ∧ KpBut n₀ ob W wr) (fun i _ => len - (intOf i).toNat)
  case atStart => exact ⟨0, [], Nat.zero_le _, by simp, Lib.hid rfl, h0, KpBut.refl _ _ _⟩
  case round =>
    obtain ⟨k, pre, hk, rfl, HP, hJ, hK⟩ := hrel
    have cs : wr.cell? ⟨Bs, 0, none⟩ = some (.slice (some ⟨g, o, none⟩) len cap) := (hK.cell (p := ⟨Bs, 0, none⟩) hBs hob1).trans hs
    have cn : wr.cell? ⟨Bn, 0, none⟩ = some (.int .i64 sz) := (hK.cell (p := ⟨Bn, 0, none⟩) hBn hob2).trans hnn
    have HK := Lib.hid hK
    have HJ := Lib.hid hJ
    have HNN := Lib.hid hN
    clear hK hJ hN
    have hpl : pre.length = k := by have := congrArg List.length HP.out; simpa using this
    by_cases hlt : k * sz < len
    · have hkN := (HNN.out k).2 hlt
      obtain ⟨fn, tmps, assign, body, hy, hR⟩ := hY pre ⟨k, hkN⟩ wr.drew (hJd _ _ HJ.out) (by rw [hpl]; exact hkN)
      generalize hks : k * sz = i at *
      have HKs := Lib.hid hks
      have hci : ¬ cap = i := by omega
      have hil : i ≤ len := by omega
      have hic : i ≤ cap := by omega
      have HR := Lib.hid hR
      clear hR hY
      have fin : ∀ m : Nat, m = min sz (len - i) → piece g o len sz k = .slice (some ⟨g, o + i, none⟩) m m := by
        intro m hm
        unfold piece
        rw [hks, hm]
      clear hks
      by_cases hm : len - i < sz
      · rw [fin (len - i) (by omega)] at hy
        have ev : ((i : Int) + ((len - i : Nat) : Int)).toNat - i = len - i := by omega
        have ev2 : ((i : Int) + ((len - i : Nat) : Int)) ≤ (len : Int) := by omega
        clear fin
        gi_wp2
        gi_region_with_o (fail)
        all_goals
          gi_wp2
          refine HR.out.mono ?_
          rintro e W3 (⟨rfl, hJ3, hk3⟩ | ⟨rfl, hJx3⟩)
          · have cn3 : W3.cell? ⟨Bn, 0, none⟩ = some (.int .i64 sz) := (hk3.cell (p := ⟨Bn, 0, none⟩) hBn hob2).trans cn
            have HJ3 := Lib.hid hJ3
            have HK3 := Lib.hid hk3
            clear hJ3 hk3
            gi_wp2
            go_roundw
            case rel => exact ⟨k + 1, pre ++ [⟨k, hkN⟩], by omega, by rw [Nat.succ_mul, HKs.out]; go_num, Lib.hid (by rw [List.map_append, HP.out, List.range_succ]; rfl), HJ3.out, HK.out.trans HK3.out⟩
            case measure => simp [intOf]; omega
          · gi_wp2
            refine bodyPost_ret (results_none rfl _ _ _) rfl ?_
            exact ⟨⟨_, rfl⟩, .inr ⟨_, trivial, hJx3⟩⟩
      · rw [fin sz (by omega)] at hy
        have ev : ((i : Int) + (sz : Int)).toNat - i = sz := by omega
        have ev2 : ((i : Int) + (sz : Int)) ≤ (len : Int) := by omega
        clear fin
        gi_wp2
        gi_region_with_o (fail)
        all_goals
          gi_wp2
          refine HR.out.mono ?_
          rintro e W3 (⟨rfl, hJ3, hk3⟩ | ⟨rfl, hJx3⟩)
          · have cn3 : W3.cell? ⟨Bn, 0, none⟩ = some (.int .i64 sz) := (hk3.cell (p := ⟨Bn, 0, none⟩) hBn hob2).trans cn
            have HJ3 := Lib.hid hJ3
            have HK3 := Lib.hid hk3
            clear hJ3 hk3
            gi_wp2
            go_roundw
            case rel => exact ⟨k + 1, pre ++ [⟨k, hkN⟩], by omega, by rw [Nat.succ_mul, HKs.out]; go_num, Lib.hid (by rw [List.map_append, HP.out, List.range_succ]; rfl), HJ3.out, HK.out.trans HK3.out⟩
            case measure => simp [intOf]; omega
          · gi_wp2
            refine bodyPost_ret (results_none rfl _ _ _) rfl ?_
            exact ⟨⟨_, rfl⟩, .inr ⟨_, trivial, hJx3⟩⟩
    · have hkN : k = N := by
        rcases Nat.lt_or_ge k N with h | h
        · exact absurd ((HNN.out k).1 h) hlt
        · omega
      generalize k * sz = i at *
      gi_wp2
      go_end0
      exact ⟨⟨_, rfl⟩, .inl ⟨pre, by rw [HP.out, hkN], HJ.out⟩⟩

end Go.Proofs.Ytkkfifocilnbkaa
