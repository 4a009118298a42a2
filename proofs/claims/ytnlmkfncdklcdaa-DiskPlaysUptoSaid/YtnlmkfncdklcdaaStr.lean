/-
  Strings' octets: appended to a row of octets; made into a slice.
-/
import Derived.Test.YtnlmkfncdklcdaaByt
import Derived.Lib.AppendStr
import Derived.Lib.ConvBytes
namespace Go.Proofs.Ytnlmkfncdklcdaa
open Go.RowKit

theorem strCells_bvs (s : ByteArray) : Lib.strCells s = bvs s.data.toList := rfl

theorem run_append_OwnS {P : Program} (w : World) (t u ty e : TypeId) (i : TypeInfo) (ht : P.underlying t = some (.slice e)) (hu : P.underlying u = some .string) (hi : P.info? e = some i) (hz : i.zero = some (.int .u8 0)) (hsize : i.size = 1) (hby : i.bytes = 1)
    (F : Nat → Prop) (v : Value) (n : Nat) (xs : List Value) (hown : Own w e 1 F v n xs) (s : ByteArray) (h63 : n + s.size ≤ maxLen) (hbytes : n + s.size ≤ 140737488355328) :
    ∃ v' w', (Builtin.append_ #[t, u] ty #[v, .string s]).run P w = .ok v' w' ∧ Own w' e 1 (fun k => F k ∨ k = w.heap.size) v' (n + s.size) (xs ++ Lib.strCells s) ∧ Kept (ownS v) w w' := by
  obtain ⟨v', w', hr, h2, h3, _⟩ := Lib.run_append_own_string (P := P) w 0 t u ty e i ht hu hi hz hsize hby v n xs hown.1 s h63 hbytes (Nat.zero_le _)
  refine ⟨v', w', hr, ⟨h2, fun k hk => ?_⟩, (Kept.refl _ _).grown h3 fun k hk _ => hk⟩
  have hsmall : n + s.size ≤ 9223372036854775807 := by simp only [maxLen] at h63; omega
  rcases hown.1.2 with ⟨rfl, rfl⟩ | ⟨g, cap, cur, rfl, hbg, hg, hnc, hcm, hcs, htake⟩
  · by_cases hm : s.size = 0
    · have hf := Lib.run_firstCells_string (P := P) w 1 s
      rw [hm] at hf
      have h1 : (Builtin.append_ #[t, u] ty #[.slice none 0 0, .string s]).run P w = .ok (.slice none 0 0) w := by
        simp [Builtin.append_, run_underlying ht, run_underlying hu, sizeOf, typeInfo, hi, hsize, Builtin.lenOf, hm, hf]
      rw [h1] at hr
      injection hr with hv
      subst hv
      simp [Value.ownBlock] at hk
    · have h1 := run_append_nil_string (P := P) w t u ty e i (.int .u8 0) ht hu hi hz s (by omega) (by omega) (by rw [hby]; omega)
      rw [h1] at hr
      injection hr with hv
      subst hv
      simp [Value.ownBlock] at hk
      exact .inr hk.symm
  · by_cases hroom : n + s.size ≤ cap
    · have hcs' : cur.size = cap := by simpa using hcs
      have h1 := Lib.run_append_room_string (P := P) w t u ty e i ht hu hi hsize g n cap cur hg s hroom (by omega)
      rw [h1] at hr
      injection hr with hv
      subst hv
      simp [Value.ownBlock] at hk
      exact .inl (hown.2 k (by simp [Value.ownBlock, hk]))
    · have hxl : xs.length = n := by simpa using hown.1.1
      have holds : ∀ j u, xs[j]? = some u → w.cell? ((⟨g, 0, none⟩ : Addr).add j) = some u := hown.1.cells (g := g) rfl
      have h1 := Lib.run_append_grow_string (P := P) w t u ty e i (.int .u8 0) ht hu hi hz ⟨g, 0, none⟩ n cap xs (by rw [hsize]; simpa using hxl) holds s (by omega) (by omega) (by rw [hby]; exact growslice_fits (by omega) (by omega))
      rw [h1] at hr
      injection hr with hv
      subst hv
      simp [Value.ownBlock] at hk
      exact .inr hk.symm

section
variable {w : World} {ops : Array Oper} {rest : List Oper} {o : Oper} {a : Act} {Q : Exit → Act → World → Prop} {K : Act → World → Prop} {E : Prop}
theorem wpList_appStr (hgd : o.guard = none) (sl x : Operand) (ho : o.op = .call { callee := .builtin .append, args := #[sl, x], argTypes := #[34, 9] })
    (F : Nat → Prop) (v : Value) (bs : List UInt8) (hs : a.eval sl = v) (hown : OB w F v bs) (s : ByteArray) (hx : a.eval x = .string s)
    (hl : bs.length + s.size ≤ 140737488355328) (hF : F w.heap.size)
    (h : ∀ A' c' w', OB w' F (.slice A' (bs.length + s.size) c') (bs ++ s.data.toList) → Kept (ownS v) w w' → wpList Try.prog ops Q rest (a.put o.dst (.slice A' (bs.length + s.size) c')) w') : wpList Try.prog ops Q (o :: rest) a w := by
  obtain ⟨i0, hi, hz0, hz1, hz2⟩ := info_parts infoU8
  refine wpList_plain hgd fun K hK => ?_
  obtain ⟨v', w', hr, h2, h3⟩ := run_append_OwnS (P := Try.prog) w 34 9 o.type 5 i0 Try.underlying34 Try.underlying9 hi hz0 hz1 hz2 F v bs.length (bvs bs) hown s (by unfold maxLen; omega) hl
  have h4 := h2.mono (G := F) (fun k _ q => q.elim id fun q => q ▸ hF)
  obtain ⟨A', c', rfl, _⟩ := Own.form h4
  unfold Oper.wp execOp
  simp only [ho, resolve, invoke, builtin, Sem.run_bind, Sem.run_pure, Result.andThen_ok, List.map_toArray, List.map_cons, List.map_nil, hs, hx, hr]
  refine hK _ _ (h A' c' w' ?_ h3)
  unfold OB
  rw [bvs_append, List.length_append, ← strCells_bvs, show s.data.toList.length = s.size from by rw [Array.length_toList]; rfl]
  exact h4
end

theorem bytes_kept (w : World) (e : TypeId) (s : ByteArray) : Kept noneS w (Lib.bytesWorld w e s) :=
  ⟨rfl, rfl, rfl, by rw [Lib.bytesWorld_size]; omega, fun k hk _ => Lib.bytesWorld_at_old w e s k hk⟩
theorem bytes_rb (w : World) (e : TypeId) (s : ByteArray) : RB (Lib.bytesWorld w e s) (· = w.heap.size) (some ⟨w.heap.size, 0, none⟩) s.data.toList := by
  refine .inr ⟨w.heap.size, 0, rfl, rfl, fun j u hu => ?_⟩
  have hj : j < s.data.toList.length := by
    have := (List.getElem?_eq_some_iff.1 hu).1
    rwa [bvs_length] at this
  rw [bvs_get _ j hj] at hu
  injection hu with hu
  subst hu
  have h1 : j < s.size := by rw [Array.length_toList] at hj; exact hj
  rw [Nat.zero_add, Lib.bytesWorld_cell w e s j h1]
  have h2 : s.data.toList.getD j 0 = s.data.toList[j] := by simp [List.getD, List.getElem?_eq_getElem hj]
  rw [h2]
theorem run_bytes_of (w : World) (s : ByteArray) : (convert 9 34 (.string s)).run Try.prog w = .ok (.slice (some ⟨w.heap.size, 0, none⟩) s.size (grownCap w s.size 0 5)) (Lib.bytesWorld w 5 s) :=
  Lib.run_convert_string_bytes (P := Try.prog) w 9 34 5 s Try.underlying9 Try.underlying34 Try.underlying5
theorem bytes_size (s : ByteArray) : s.data.toList.length = s.size := by rw [Array.length_toList]; rfl

end Go.Proofs.Ytnlmkfncdklcdaa
