/-
  Octets in this program's own numbers: append of one octet, of a slice, of a string's octets.
-/
import Derived.Test.YtnlmkfncdklcdaaRows
import Derived.Test.YtnlmkfncdklcdaaMem
namespace Go.Proofs.Ytnlmkfncdklcdaa
open Go.RowKit

theorem infoU8 : (Try.prog.info? 5).map (fun i => (i.zero, i.size, i.bytes)) = some (some (.int .u8 0), 1, 1) := by kernel_rfl

section
variable {w : World} {ops : Array Oper} {rest : List Oper} {o : Oper} {a : Act} {Q : Exit → Act → World → Prop} {K : Act → World → Prop} {E : Prop}

theorem wp_appN (s x : Operand) (ho : o.op = .call { callee := .builtin .append, args := #[s, x], argTypes := #[34, 34] })
    (F G : Nat → Prop) (v : Value) (bs : List UInt8) (hs : a.eval s = v) (hown : OB w F v bs) (A : Option Addr) (c : Nat) (cs : List UInt8) (hx : a.eval x = .slice A cs.length c) (hr : RB w G A cs)
    (hl : bs.length + cs.length ≤ 140737488355328) (hF : F w.heap.size)
    (h : ∀ A' c' w', OB w' F (.slice A' (bs.length + cs.length) c') (bs ++ cs) → bs.length + cs.length ≤ c' → Kept (ownS v) w w' → K (a.put o.dst (.slice A' (bs.length + cs.length) c')) w') : o.wp Try.prog a w K Q := by
  obtain ⟨i0, hi, hz0, hz1, hz2⟩ := info_parts infoU8
  refine wp_append_Own w s x 34 ho 5 i0 (.int .u8 0) 1 1 Try.underlying34 hi hz0 hz1 hz2 rfl (by decide) F G v bs.length (bvs bs) hs hown A cs.length c (bvs cs) hx (by simp [bvs_length]) hr (bvs_one cs) (by unfold maxLen; omega) (by omega) ?_
  intro v' w' h1 h2
  have h3 := h1.mono (G := F) (fun k _ q => q.elim id fun q => q ▸ hF)
  obtain ⟨A', c', rfl, h4, _⟩ := Own.form h3
  refine h A' c' w' ?_ h4 h2
  unfold OB
  rw [bvs_append, List.length_append]
  exact h3
theorem wpList_appN (hgd : o.guard = none) (s x : Operand) (ho : o.op = .call { callee := .builtin .append, args := #[s, x], argTypes := #[34, 34] })
    (F G : Nat → Prop) (v : Value) (bs : List UInt8) (hs : a.eval s = v) (hown : OB w F v bs) (A : Option Addr) (c : Nat) (cs : List UInt8) (hx : a.eval x = .slice A cs.length c) (hr : RB w G A cs)
    (hl : bs.length + cs.length ≤ 140737488355328) (hF : F w.heap.size)
    (h : ∀ A' c' w', OB w' F (.slice A' (bs.length + cs.length) c') (bs ++ cs) → bs.length + cs.length ≤ c' → Kept (ownS v) w w' → wpList Try.prog ops Q rest (a.put o.dst (.slice A' (bs.length + cs.length) c')) w') : wpList Try.prog ops Q (o :: rest) a w :=
  wpList_plain hgd fun _ hK => wp_appN s x ho F G v bs hs hown A c cs hx hr hl hF fun A' c' w' h1 h2 h3 => hK _ _ (h A' c' w' h1 h2 h3)
theorem step_appN (hgd : o.guard = none) (s x : Operand) (ho : o.op = .call { callee := .builtin .append, args := #[s, x], argTypes := #[34, 34] })
    (F G : Nat → Prop) (v : Value) (bs : List UInt8) (hs : a.eval s = v) (hown : OB w F v bs) (A : Option Addr) (c : Nat) (cs : List UInt8) (hx : a.eval x = .slice A cs.length c) (hr : RB w G A cs)
    (hl : bs.length + cs.length ≤ 140737488355328) (hF : F w.heap.size)
    (h : ∀ A' c' w', OB w' F (.slice A' (bs.length + cs.length) c') (bs ++ cs) → bs.length + cs.length ≤ c' → Kept (ownS v) w w' → K (a.put o.dst (.slice A' (bs.length + cs.length) c')) w') :
    if Region.wanted o (yielded ops a.tmps) = true then Oper.wp Try.prog o a w K Q else E := by
  rw [if_pos (by simp [Region.wanted, hgd])]
  exact wp_appN s x ho F G v bs hs hown A c cs hx hr hl hF h

theorem RB.one {w : World} {g : Nat} {b : UInt8} (hc : w.cell? ⟨g, 0, none⟩ = some (.int .u8 (b.toNat : Int))) : RB w (fun _ => True) (some ⟨g, 0, none⟩) [b] := by
  refine .inr ⟨g, 0, rfl, trivial, fun j u hj => ?_⟩
  match j, hj with
  | 0, hj =>
    simp [bvs] at hj
    subst hj
    simpa using hc

theorem wpList_app1 (hgd : o.guard = none) (s x : Operand) (ho : o.op = .call { callee := .builtin .append, args := #[s, x], argTypes := #[34, 34] })
    (F : Nat → Prop) (v : Value) (bs : List UInt8) (hs : a.eval s = v) (hown : OB w F v bs) (g : Nat) (b : UInt8) (hx : a.eval x = .slice (some ⟨g, 0, none⟩) 1 1) (hc : w.cell? ⟨g, 0, none⟩ = some (.int .u8 (b.toNat : Int)))
    (hl : bs.length + 1 ≤ 140737488355328) (hF : F w.heap.size)
    (h : ∀ A' c' w', OB w' F (.slice A' (bs.length + 1) c') (bs ++ [b]) → bs.length + 1 ≤ c' → Kept (ownS v) w w' → wpList Try.prog ops Q rest (a.put o.dst (.slice A' (bs.length + 1) c')) w') : wpList Try.prog ops Q (o :: rest) a w :=
  wpList_appN hgd s x ho F (fun _ => True) v bs hs hown (some ⟨g, 0, none⟩) 1 [b] hx (RB.one hc) hl hF h
theorem step_app1 (hgd : o.guard = none) (s x : Operand) (ho : o.op = .call { callee := .builtin .append, args := #[s, x], argTypes := #[34, 34] })
    (F : Nat → Prop) (v : Value) (bs : List UInt8) (hs : a.eval s = v) (hown : OB w F v bs) (g : Nat) (b : UInt8) (hx : a.eval x = .slice (some ⟨g, 0, none⟩) 1 1) (hc : w.cell? ⟨g, 0, none⟩ = some (.int .u8 (b.toNat : Int)))
    (hl : bs.length + 1 ≤ 140737488355328) (hF : F w.heap.size)
    (h : ∀ A' c' w', OB w' F (.slice A' (bs.length + 1) c') (bs ++ [b]) → bs.length + 1 ≤ c' → Kept (ownS v) w w' → K (a.put o.dst (.slice A' (bs.length + 1) c')) w') :
    if Region.wanted o (yielded ops a.tmps) = true then Oper.wp Try.prog o a w K Q else E :=
  step_appN hgd s x ho F (fun _ => True) v bs hs hown (some ⟨g, 0, none⟩) 1 [b] hx (RB.one hc) hl hF h
end

theorem run_str (w : World) (F : Nat → Prop) (A : Option Addr) (c : Nat) (bs : List UInt8) (h : RB w F A bs) : (convert 34 9 (.slice A bs.length c)).run Try.prog w = .ok (.string ⟨bs.toArray⟩) w :=
  run_string_of (P := Try.prog) w 34 9 5 Try.underlying34 Try.underlying5 Try.underlying9 F A c bs h

end Go.Proofs.Ytnlmkfncdklcdaa
