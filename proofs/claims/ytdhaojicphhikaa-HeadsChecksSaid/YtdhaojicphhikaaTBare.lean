/-
  ftable.checkValue's closure: the fields that a kind has no use for are bare.
-/
import Derived.Test.YtdhaojicphhikaaTSmall
namespace Go.Proofs.Ytdhaojicphhikaa
open Go.RowKit

def bareP (nm tx li tb : Bool) (n : Int) (t : ByteArray) (ll tl : Nat) : Bool := (nm || decide (n = 0)) && ((tx || decide (t.toList = [])) && ((li || decide (ll = 0)) && (tb || decide (tl = 0))))

set_option maxHeartbeats 3200000 in
theorem bare (nm tx li tb : Bool) (b : Nat) (k n : Int) (t : ByteArray) (A B : Option Addr) (ll c tl d : Nat) (w : World) (hb : Blk w b 32 #[.int .i64 k, .int .i64 n, .string t, .slice A ll c, .slice B tl d]) (_h1 : ll ≤ 140737488351232) (_h2 : tl ≤ 140737488351232) :
    Calls Try.prog 31 #[.bool nm, .bool tx, .bool li, .bool tb, .pointer (some ⟨b, 0, none⟩)] w fun e w' => e = .returned (.bool (bareP nm tx li tb n t ll tl)) ∧ w = w' := by
  have c1 : w.cell? ⟨b, 1, none⟩ = some (.int .i64 n) := hb.cell 1
  have c2 : w.cell? ⟨b, 2, none⟩ = some (.string t) := hb.cell 2
  have c3 : w.cell? ⟨b, 3, none⟩ = some (.slice A ll c) := hb.cell 3
  have c4 : w.cell? ⟨b, 4, none⟩ = some (.slice B tl d) := hb.cell 4
  clear hb
  cases nm <;> cases tx <;> cases li <;> cases tb
  all_goals
    go_enter Try.func31, Try.ntmps31
    go_wp2
    all_goals
      go_ret
      exact ⟨retB (by unfold bareP; first | (simp [*]; done) | (rw [Bool.eq_iff_iff]; simp [*]; done)), rfl⟩

end Go.Proofs.Ytdhaojicphhikaa
