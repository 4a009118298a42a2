/-
  An append of one element that lies in a new block.
-/
import Derived.Test.YtnlmkfncdklcdaaDkUpd2
namespace Go.Proofs.Ytnlmkfncdklcdaa
open Go.RowKit

/-- An append of one element that lies in a new block. -/
theorem run_app1 {P : Program} (w1 : World) (t ty e : TypeId) (i : TypeInfo) (z : Value) (size bytes : Nat) (ht : P.underlying t = some (.slice e)) (hi : P.info? e = some i) (hz : i.zero = some z)
    (hsize : i.size = size) (hby : i.bytes = bytes) (hzs : z.cells.size = size) (hsz : 0 < size)
    (F : Nat → Prop) (v : Value) (n : Nat) (xs : List Value) (hown : Own w1 e size F v n xs) (cs : Array Value) (hcs : cs.toList.length = 1 * size) (h1 : ∀ u ∈ cs.toList, u.oneCell' = true)
    (h63 : n + 1 ≤ maxLen) (hbytes : (n + 1) * bytes ≤ 140737488355328) :
    ∃ A' c' w', (Builtin.append_ #[t, t] ty #[v, .slice (some ⟨w1.heap.size, 0, none⟩) 1 1]).run P (w1.alloc (.cells cs e)) = .ok (.slice A' (n + 1) c') w' ∧ Own w' e size (fun k => ownS v k ∨ k = w1.heap.size + 1) (.slice A' (n + 1) c') (n + 1) (xs ++ cs.toList) ∧ (n + 1 ≤ c' ∧ c' ≤ maxLen) ∧ Kept (ownS v) (w1.alloc (.cells cs e)) w' := by
  have ho : Own (w1.alloc (.cells cs e)) e size (ownS v) v n xs := ⟨(hown.alloc _).1, fun _ a => a⟩
  have hr : Rd (w1.alloc (.cells cs e)) (fun _ => True) (some ⟨w1.heap.size, 0, none⟩) cs.toList := by
    refine .inr ⟨w1.heap.size, 0, rfl, trivial, fun j u hu => ?_⟩
    rw [Nat.zero_add, (Blk.new w1 e cs).cell j]
    simpa using hu
  obtain ⟨v', w', hrun, h2, h3⟩ := run_append_Own (P := P) (w1.alloc (.cells cs e)) t ty e i z size bytes ht hi hz hsize hby hzs hsz (ownS v) (fun _ => True) v n xs ho _ 1 1 cs.toList hcs hr h1 h63 hbytes
  obtain ⟨A', c', rfl, hc, hm, _⟩ := Own.form h2
  exact ⟨A', c', w', hrun, h2.mono (fun k _ q => by simpa using q), ⟨hc, hm⟩, h3⟩

theorem infoWr : (Try.prog.info? 74).map (fun i => (i.zero, i.size, i.bytes)) = some (some (.agg #[.string ⟨#[]⟩, .int .i64 0, .slice none 0 0]), 3, 48) := by kernel_rfl

theorem one_cells3 (a : ByteArray) (k : Int) (v : Value) (hv : v.oneCell' = true) : ∀ u ∈ ([.string a, .int .i64 k, v] : List Value), u.oneCell' = true := by
  intro u hu
  simp only [List.mem_cons, List.not_mem_nil, or_false] at hu
  rcases hu with rfl | rfl | rfl
  · rfl
  · rfl
  · exact hv

theorem step_appW {ops : Array Oper} {o : Oper} {a : Act} {K : Act → World → Prop} {Q : Exit → Act → World → Prop} {E : Prop} (hgd : o.guard = none) (s x : Operand)
    (ho : o.op = .call { callee := .builtin .append, args := #[s, x], argTypes := #[66, 66] })
    (w1 : World) (F : Nat → Prop) (v : Value) (n : Nat) (xs : List Value) (hs : a.eval s = v) (hown : Own w1 74 3 F v n xs) (nm : ByteArray) (k : Int) (A : Option Addr) (l c : Nat)
    (hx : a.eval x = .slice (some ⟨w1.heap.size, 0, none⟩) 1 1) (hn : (n + 1) * 48 ≤ 140737488355328)
    (h : ∀ A' c' w', Own w' 74 3 (fun k => ownS v k ∨ k = w1.heap.size + 1) (.slice A' (n + 1) c') (n + 1) (xs ++ [.string nm, .int .i64 k, .slice A l c]) → (n + 1 ≤ c' ∧ c' ≤ maxLen) → Kept (ownS v) (w1.alloc (.cells #[.string nm, .int .i64 k, .slice A l c] 74)) w' → K (a.put o.dst (.slice A' (n + 1) c')) w') :
    if Region.wanted o (yielded ops a.tmps) = true then Oper.wp Try.prog o a (w1.alloc (.cells #[.string nm, .int .i64 k, .slice A l c] 74)) K Q else E := by
  rw [if_pos (by simp [Region.wanted, hgd])]
  obtain ⟨i0, hi, hz0, hz1, hz2⟩ := info_parts infoWr
  obtain ⟨A', c', w', hrun, h2, h3, h4⟩ := run_app1 (P := Try.prog) w1 66 o.type 74 i0 _ 3 48 Try.underlying66 hi hz0 hz1 hz2 rfl (by decide) F v n xs hown #[.string nm, .int .i64 k, .slice A l c] rfl (one_cells3 _ _ _ rfl) (by unfold maxLen; omega) hn
  unfold Oper.wp execOp
  simp only [ho, resolve, invoke, builtin, Sem.run_bind, Sem.run_pure, Result.andThen_ok, List.map_toArray, List.map_cons, List.map_nil, hs, hx, hrun]
  exact h A' c' w' h2 h3 h4

end Go.Proofs.Ytnlmkfncdklcdaa
