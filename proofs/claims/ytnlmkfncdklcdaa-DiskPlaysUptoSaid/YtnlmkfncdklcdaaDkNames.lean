/-
  disk.Disk.Names.
-/
import Derived.Test.YtnlmkfncdklcdaaDkFls
import Derived.Test.YtnlmkfncdklcdaaDkIter
namespace Go.Proofs.Ytnlmkfncdklcdaa
open Go.RowKit Go.Maps

theorem nodup_keys : ∀ l : List FileS, Asc l → (l.map FileS.key).Nodup
  | [], _ => List.nodup_nil
  | f :: l, h => by
    obtain ⟨h1, h2⟩ := List.pairwise_cons.1 h
    refine List.nodup_cons.2 ⟨fun q => ?_, nodup_keys l h2⟩
    obtain ⟨g, hg, e⟩ := List.mem_map.1 q
    exact lt_ne (h1 g hg) e.symm
theorem get_isSome (s : DiskS) (nm : List UInt8) : (s.get nm).isSome = true ↔ nm ∈ s.files.map FileS.key := by
  unfold DiskS.get
  rw [List.find?_isSome, List.mem_map]
  constructor
  · rintro ⟨f, h1, h2⟩
    exact ⟨f, h1, by simpa using h2⟩
  · rintro ⟨f, h1, h2⟩
    exact ⟨f, h1, by simpa using h2⟩

/-- The keys of the disk's map are its files' names. -/
theorem VMap.names {w : World} {b n : Nat} {s : DiskS} {hb : List UInt8 → Nat} (h : VMap w b n (fun nm => (s.get nm).map fun _ => .pointer (some ⟨hb nm, 0, none⟩))) (ha : Asc s.files) :
    ∃ D : DataW Value, w.ownsMap Try.prog 9 rHeld b n D ∧ (s.files.map FileS.key).Perm (strKeys D) ∧ Maps.size D = s.files.length ∧ ∀ nm z, D.atKey (.string nm) z = match (s.get nm).map fun _ => Value.pointer (some ⟨hb nm, 0, none⟩) with | some v => .held v | none => z := by
  obtain ⟨D, h1, h2, h3⟩ := h
  obtain ⟨es, hD, hpw, _⟩ := h1.entries strKeyed
  obtain ⟨es', hD', hko⟩ := h1.keysOf
  obtain rfl : es = es' := by rw [hD] at hD'; simpa using hD'
  subst hD
  have hp := perm_strKeys hpw (fun p hp => by obtain ⟨v, hv⟩ := hko p hp; obtain ⟨x, _, hx, _⟩ := Maps.keyOf_str Try.underlying9 hv; exact ⟨x, hx⟩) (nodup_keys s.files ha) (fun x => by
    rw [← get_isSome]
    rcases hg : s.get x with _ | f
    · have h4 := has_false_of_atKey (D := .map es) (k := .string x) (fun z => by rw [h3 x z]; simp only [hg]; rfl)
      rw [h4]
      simp
    · have h4 := has_true_of_atKey (D := .map es) (k := .string x) (y := .held (.pointer (some ⟨hb x, 0, none⟩))) (fun z => by rw [h3 x z]; simp only [hg]; rfl)
      rw [h4]
      simp)
  refine ⟨_, h1, hp, ?_, h3⟩
  have := hp.length_eq
  unfold strKeys at this
  simp at this
  rw [Maps.size_eq, this]

theorem sorted_names (s : DiskS) (ha : Asc s.files) {ss : List (List UInt8)} (h : ss.Perm (s.files.map FileS.key)) : ss.mergeSort (fun x y => decide (x ≤ y)) = s.files.map FileS.key := by
  have e := mergeSort_of_perm h
  unfold leB at e
  rw [e]
  refine List.mergeSort_of_pairwise (List.pairwise_map.2 (ha.imp (fun {a b} hab => ?_)))
  exact decide_eq_true (List.le_of_lt hab)

set_option maxHeartbeats 800000 in
theorem diskNames (F : Nat → Prop) (p N : Nat) (s : DiskS) (w : World) (h : DAt w F p s N) (ha : Asc s.files) (hs : s.files.length * 16 ≤ 140737488355328) :
    Calls Try.prog 24 #[.pointer (some ⟨p, 0, none⟩)] w fun e w' => ∃ A c, e = .returned (.slice A s.files.length c) ∧ Own w' 9 1 (w.heap.size ≤ ·) (.slice A s.files.length c) s.files.length (s.files.map fun f => .string f.name) ∧ Kept noneS w w' := by
  obtain ⟨tag, m, pv, hb, _, ho⟩ := h.open_
  obtain ⟨D, h1, h2, h3, _⟩ := ho.map.names ha
  have c0 : w.cell? ⟨p, 0, none⟩ = some (.map (some m)) := ho.blk.cell 0
  have H1 := Lib.hid h1
  have H2 := Lib.hid h2
  have H3 := Lib.hid h3
  have HA := Lib.hid ha
  clear h ho h1 h2 h3 ha
  go_enter Try.func24, Try.ntmps24
  go_wp2_with fail
  refine (callsIn_wide.1 (Try.maps_Keys_38 (some m) w)).mono ?_
  rintro e w1 ⟨rfl, rfl⟩
  go_wp2_with fail
  refine (callsIn_wide.1 (Try.slices_Sorted_keys_37_38 m N D rHeld w H1.out (by rw [H3.out]; unfold maxLen; omega) (by rw [H3.out]; exact hs))).mono ?_
  rintro e w2 ⟨v, ss, rfl, hp, hown, _, hbl⟩
  have e1 := sorted_names s HA.out (hp.trans H2.out.symm)
  have e2 : ss.length = s.files.length := by
    have := (hp.trans H2.out.symm).length_eq
    simpa using this
  rw [e1, e2] at hown
  have e3 : (s.files.map FileS.key).map encStr = s.files.map fun f => Value.string f.name := by
    rw [List.map_map]
    refine List.map_congr_left (fun f _ => ?_)
    show encStr f.key = _
    unfold FileS.key
    rw [ByteArray.toList_eq]
  rw [e3] at hown
  have ow : Own w2 9 1 (w.heap.size ≤ ·) v s.files.length (s.files.map fun f => .string f.name) := by
    refine ⟨⟨hown.1, ?_⟩, fun k hk => ?_⟩
    · rcases hown.2 with h | ⟨g, cap, cur, h1, _, h3⟩
      · exact .inl h
      · exact .inr ⟨g, cap, cur, h1, Nat.zero_le _, h3⟩
    · have := (hown.lt k hk).1
      simp at this
      omega
  obtain ⟨A, c, rfl, _⟩ := ow.form
  have OW := Lib.hid ow
  have KB : Hid (Kept noneS w w2) := Lib.hid (((Kept.refl noneS w).alloc _).trans (Kept.of_below hbl))
  clear hown ow hbl hp e1 e2 e3
  go_wp2
  go_ret
  exact ⟨A, c, rfl, OW.out, KB.out⟩

end Go.Proofs.Ytnlmkfncdklcdaa
