/-
  A literal's bytes, converted: the block is marked.
-/
import Derived.Test.YtfpkachoneaaeaaBbCli
import Derived.Lib.SlBytesConst
import Derived.Laws.MakeOwn
set_option linter.unusedSimpArgs false
set_option linter.unusedVariables false
namespace Go.Proofs.Ytfpkachoneaaeaa
open Go Go.Conc Go.RowKit
section
variable {P : Program} {Post : Value → World → Prop} {Z : Scene} {n h k : Nat} {w : World} {b : Frame} {x : Act} {kk : List Item} {cs : List Frame} {ops : Array Oper} {i : Nat} {rest : List Nat} {o : Oper}
theorem alloc_get (w : World) (o : Obj) (b : Nat) : (w.alloc o).heap[b]? = if b = w.heap.size then some o else w.heap[b]? := by
  by_cases e : b = w.heap.size
  · subst e; rw [if_pos rfl]; exact heap_alloc_new w o
  · rw [if_neg e]
    by_cases hb : b < w.heap.size
    · exact RowKit.Below.heap_alloc w o b hb
    · rw [Array.getElem?_eq_none (by simp; omega), Array.getElem?_eq_none (by omega)]
theorem ev_conv {u : World} {t e : TypeId} {a : Addr} {nn cc : Nat} (ht : P.underlying t = some (.slice e)) (he : P.underlying e = some (.int .u8)) : (convert t t (.slice (some a) nn cc)).events P u #[] = #[] := by
  simp [convert, run_underlying ht, run_underlying he, markStringish, go_sem]
  cases u.shape? a.block with
  | none => rfl
  | some p => rfl
theorem Run.convLit {t e : TypeId} {X : Operand} {C : Array Value} {nn cc : Nat} (ho : ops[i]? = some o) (hw : Region.wanted o (yielded ops x.tmps) = true) (hk : b.kind ≠ .early) (hop : o.op = .convert t t X) (hx : x.eval X = .slice (some ⟨w.heap.size, 0, none⟩) nn cc)
    (ht : P.underlying t = some (.slice e)) (he : P.underlying e = some (.int .u8))
    (H : Run P Post Z n h k (G (b.at (x.put o.dst (.slice (some ⟨w.heap.size, 0, none⟩) nn cc)) (.inRegion ops rest :: kk)) cs) (w.alloc (.cells C e (C.size, C.size + 1)))) :
    Run P Post Z n h k (G (b.at x (.inRegion ops (i :: rest) :: kk)) cs) (w.alloc (.cells C e)) := by
  have e1 : execOp x.eval o = (do pure (.value (← convert t t (.slice (some ⟨w.heap.size, 0, none⟩) nn cc))) : Sem Next) := by unfold execOp; simp only [hop, hx]
  refine Run.okG fun hok => ?_
  refine Run.opk ho hw hk fun d K' hK => ?_
  have hr : (convert t t (.slice (some ⟨w.heap.size, 0, none⟩) nn cc)).run P ((w.at d).alloc (.cells C e)) = .ok (.slice (some ⟨w.heap.size, 0, none⟩) nn cc) ((w.at d).alloc (.cells C e (C.size, C.size + 1))) := Go.Lib.run_convert_bytes_const (P := P) (w.at d) t e C nn cc ht he
  have hr2 : (execOp x.eval o).run P ((w.alloc (.cells C e)).at d) = .ok (.value (.slice (some ⟨w.heap.size, 0, none⟩) nn cc)) ((w.at d).alloc (.cells C e (C.size, C.size + 1))) := by
    rw [e1, Sem.run_bind]
    have : ((w.alloc (.cells C e)).at d) = (w.at d).alloc (.cells C e) := rfl
    rw [this, hr]
    rfl
  have hev : (execOp x.eval o).events P ((w.alloc (.cells C e)).at d) #[] = #[] := by
    rw [e1]
    have := ev_conv (P := P) (u := (w.alloc (.cells C e)).at d) (t := t) (a := ⟨w.heap.size, 0, none⟩) (nn := nn) (cc := cc) ht he
    have hr' : (convert t t (.slice (some ⟨w.heap.size, 0, none⟩) nn cc)).run P ((w.alloc (.cells C e)).at d) = .ok (.slice (some ⟨w.heap.size, 0, none⟩) nn cc) ((w.at d).alloc (.cells C e (C.size, C.size + 1))) := hr
    simp [this, hr']
  rw [hr2]
  refine hK _ _ ⟨?_, by rw [listed_none hev]; rfl, H.at d⟩
  rw [listed_none hev]
  refine ⟨fun hw' => ⟨fun b' o' hn' ho' => ?_, fun b' hb => ?_, fun c hc => ?_⟩, by simp, fun a ha => ?_, fun c hc => ?_⟩
  · rw [show ((w.at d).alloc (.cells C e (C.size, C.size + 1))) = (w.alloc (.cells C e (C.size, C.size + 1))).at d from rfl] at ho'
    have h1 : (w.alloc (.cells C e (C.size, C.size + 1))).heap[b']? = some o' := ho'
    rw [alloc_get] at h1
    split at h1
    · obtain rfl := Option.some.inj h1
      exact trivial
    · rename_i hb
      refine hw'.obj b' o' hn' ?_
      show (w.alloc (.cells C e)).heap[b']? = some o'
      rw [alloc_get, if_neg hb]
      exact h1
  · obtain ⟨o', ho', q⟩ := hw'.hid b' hb
    have h1 : (w.alloc (.cells C e)).heap[b']? = some o' := q
    rw [alloc_get] at h1
    show ∃ o : Obj, _ ∧ (w.alloc (.cells C e (C.size, C.size + 1))).heap[b']? = _
    rw [alloc_get]
    split
    · exact ⟨_, rfl, rfl⟩
    · rename_i hb2
      rw [if_neg hb2] at h1
      exact ⟨_, ho', h1⟩
  · obtain ⟨o', ho', q⟩ := hw'.chan c hc
    have h1 : (w.alloc (.cells C e)).heap[c]? = some o' := q
    rw [alloc_get] at h1
    show ∃ o, _ ∧ (w.alloc (.cells C e (C.size, C.size + 1))).heap[c]? = _
    rw [alloc_get]
    split at h1
    · obtain rfl := Option.some.inj h1
      cases ho'
    · rename_i hb2
      rw [if_neg hb2]
      exact ⟨o', ho', h1⟩
  · show (w.alloc (.cells C e (C.size, C.size + 1))).cell? a = (w.alloc (.cells C e)).cell? a
    unfold World.cell?
    rw [alloc_get, alloc_get]
    by_cases hb : a.block = w.heap.size
    · rw [if_pos hb, if_pos hb]
    · rw [if_neg hb, if_neg hb]
  · show (w.alloc (.cells C e (C.size, C.size + 1))).heap[c]? = (w.alloc (.cells C e)).heap[c]?
    have hne : c ≠ w.heap.size := fun q => by
      obtain ⟨o', ho', h1⟩ := hok.chan c hc
      rw [alloc_get, if_pos q] at h1
      obtain rfl := Option.some.inj h1
      cases ho'
    rw [alloc_get, alloc_get, if_neg hne, if_neg hne]
end
end Go.Proofs.Ytfpkachoneaaeaa
namespace Go.Proofs.Ytfpkachoneaaeaa
open Go Go.Conc Go.RowKit
def zeros (i : Nat) : List UInt8 := List.replicate i 0
theorem i64_and15 (n : Int) : bits .and .i64 n 15 = n % 16 := by
  have h : (BitVec.ofInt 64 15).toNat = 2 ^ 4 - 1 := by decide
  have key : (BitVec.ofInt 64 n &&& BitVec.ofInt 64 15).toNat = (n % ((2 ^ 64 : Nat) : Int)).toNat % 2 ^ 4 := by
    rw [BitVec.toNat_and, BitVec.toNat_ofInt, h, Nat.and_two_pow_sub_one_eq_mod]
  show IntKind.i64.wrap ((BitVec.ofInt 64 n &&& BitVec.ofInt 64 15).toNat : Nat) = n % 16
  rw [key, IntKind.wrap_i64]
  omega
theorem zeros_len (j : Nat) : (zeros j).length = j := by simp [zeros]
theorem mk_bytes (u : World) (j : Nat) (hj : j ≤ 140737488355328) : (Instr.makeSlice 27 (.int .i64 (j : Int)) (.int .i64 (j : Int))).run Try.prog u = .ok (.slice (some ⟨u.heap.size, 0, none⟩) (zeros j).length (zeros j).length) (u.alloc (.cells (bvs (zeros j)).toArray 5)) := by
  obtain ⟨i, hi, h⟩ := Option.map_eq_some_iff.1 infoU8
  obtain ⟨h1, h2⟩ := Prod.mk.inj h
  obtain ⟨h2, h3⟩ := Prod.mk.inj h2
  rw [run_make (P := Try.prog) u 27 5 i (.int .u8 0) Try.underlying27 hi h1 .i64 .i64 (j : Int) (j : Int) (by omega) (by omega) (by rw [h3]; omega) (by omega), zeros_len, h2, Int.toNat_natCast, Nat.mul_one]
  have e1 : madeCells #[Value.int .u8 0] j = (bvs (zeros j)).toArray := by
    refine Array.ext (by simp [madeCells, bvs, zeros]) fun k h1 h2 => ?_
    simp [madeCells, bvs, zeros, Nat.mod_one]
  show Result.ok _ (u.alloc (.cells (madeCells #[Value.int .u8 0] j) _)) = _
  rw [e1]
theorem i64_and31 (n : Int) : bits .and .i64 n 31 = n % 32 := by
  have h : (BitVec.ofInt 64 31).toNat = 2 ^ 5 - 1 := by decide
  have key : (BitVec.ofInt 64 n &&& BitVec.ofInt 64 31).toNat = (n % ((2 ^ 64 : Nat) : Int)).toNat % 2 ^ 5 := by
    rw [BitVec.toNat_and, BitVec.toNat_ofInt, h, Nat.and_two_pow_sub_one_eq_mod]
  show IntKind.i64.wrap ((BitVec.ofInt 64 n &&& BitVec.ofInt 64 31).toNat : Nat) = n % 32
  rw [key, IntKind.wrap_i64]
  omega
theorem i64_and7 (n : Int) : bits .and .i64 n 7 = n % 8 := by
  have h : (BitVec.ofInt 64 7).toNat = 2 ^ 3 - 1 := by decide
  have key : (BitVec.ofInt 64 n &&& BitVec.ofInt 64 7).toNat = (n % ((2 ^ 64 : Nat) : Int)).toNat % 2 ^ 3 := by
    rw [BitVec.toNat_and, BitVec.toNat_ofInt, h, Nat.and_two_pow_sub_one_eq_mod]
  show IntKind.i64.wrap ((BitVec.ofInt 64 n &&& BitVec.ofInt 64 7).toNat : Nat) = n % 8
  rw [key, IntKind.wrap_i64]
  omega
end Go.Proofs.Ytfpkachoneaaeaa
