/-
  disk.Disk in plain words: what holds of every disk, and what a crash leaves of it.
-/
import Derived.Test.YtnlmkfncdklcdaaDkCut
import Derived.Test.YtnlmkfncdklcdaaDkRef9
import Derived.Test.YtnlmkfncdklcdaaDkRef6
namespace Go.Proofs.Ytnlmkfncdklcdaa
open Go.RowKit

/-- The writes of a file run on from b to d. -/
def Tile (k : List UInt8) : List UInt8 → List WrS → List UInt8 → Prop
  | b, [], d => b = d
  | b, x :: l, d => if x.key = k then x.off = b.length ∧ Tile k (b ++ x.data) l d else Tile k b l d

theorem tile_hit {k b d : List UInt8} {x : WrS} {l : List WrS} (h : x.key = k) : Tile k b (x :: l) d ↔ x.off = b.length ∧ Tile k (b ++ x.data) l d := by
  rw [Tile, if_pos h]
theorem tile_skip {k b d : List UInt8} {x : WrS} {l : List WrS} (h : x.key ≠ k) : Tile k b (x :: l) d ↔ Tile k b l d := by
  rw [Tile, if_neg h]
theorem tile_snoc {k d : List UInt8} {x : WrS} (hx : x.key = k) (ho : x.off = d.length) : ∀ (l : List WrS) (b : List UInt8), Tile k b l d → Tile k b (l ++ [x]) (d ++ x.data)
  | [], b, h => by
    have h : b = d := h
    subst h
    exact (tile_hit hx).2 ⟨ho, rfl⟩
  | y :: l, b, h => by
    rw [List.cons_append]
    by_cases e : y.key = k
    · exact (tile_hit e).2 ⟨((tile_hit e).1 h).1, tile_snoc hx ho l _ ((tile_hit e).1 h).2⟩
    · exact (tile_skip e).2 (tile_snoc hx ho l _ ((tile_skip e).1 h))
theorem tile_other {k d : List UInt8} {x : WrS} (hx : x.key ≠ k) : ∀ (l : List WrS) (b : List UInt8), Tile k b l d → Tile k b (l ++ [x]) d
  | [], b, h => (tile_skip hx).2 h
  | y :: l, b, h => by
    rw [List.cons_append]
    by_cases e : y.key = k
    · exact (tile_hit e).2 ⟨((tile_hit e).1 h).1, tile_other hx l _ ((tile_hit e).1 h).2⟩
    · exact (tile_skip e).2 (tile_other hx l _ ((tile_skip e).1 h))
theorem tile_none {k d : List UInt8} : ∀ (l : List WrS) (b : List UInt8), (∀ x ∈ l, x.key ≠ k) → (Tile k b l d ↔ b = d)
  | [], _, _ => Iff.rfl
  | y :: l, b, h => (tile_skip (h y List.mem_cons_self)).trans (tile_none l b (fun x hx => h x (List.mem_cons_of_mem _ hx)))
theorem tile_filter {k d nm : List UInt8} (hk : k ≠ nm) : ∀ (l : List WrS) (b : List UInt8), Tile k b l d → Tile k b (l.filter (notFor nm)) d
  | [], _, h => h
  | y :: l, b, h => by
    rw [List.filter_cons]
    by_cases e : y.key = k
    · have hn : notFor nm y = true := by
        unfold notFor
        rw [beq_eq_false_iff_ne.2 (fun q => hk (e.symm.trans q))]
        rfl
      rw [if_pos hn]
      exact (tile_hit e).2 ⟨((tile_hit e).1 h).1, tile_filter hk l _ ((tile_hit e).1 h).2⟩
    · split
      · exact (tile_skip e).2 (tile_filter hk l _ ((tile_skip e).1 h))
      · exact tile_filter hk l _ ((tile_skip e).1 h)
theorem tile_pre {k d : List UInt8} : ∀ (l : List WrS) (b : List UInt8), Tile k b l d → b <+: d
  | [], b, h => by
    have h : b = d := h
    subst h
    exact List.prefix_refl b
  | y :: l, b, h => by
    by_cases e : y.key = k
    · exact (List.prefix_append _ _).trans (tile_pre l _ ((tile_hit e).1 h).2)
    · exact tile_pre l b ((tile_skip e).1 h)

/-- What holds of every disk. -/
structure DInv (s : DiskS) : Prop where
  asc : Asc s.files
  used : s.used = (sumF s.files : Int)
  tile : ∀ f ∈ s.files, Tile f.key f.safe s.pend f.data
  there : ∀ x ∈ s.pend, s.get x.key ≠ none

/-! ## What a crash leaves of one file -/

def crOne (keep : List Bool) (tear : Int) (n : Nat) (nm : List UInt8) : Nat → List WrS → List UInt8 → List UInt8
  | _, [], b => b
  | k, x :: l, b => crOne keep tear n nm (k + 1) l (if x.key = nm ∧ keep.getD k false = true then putAt b x.off (x.data.take (wrLen n k tear x)) else b)

theorem crF_one (keep : List Bool) (tear : Int) (n : Nat) (nm : List UInt8) : ∀ (l : List WrS) (k : Nat) (lf : Lf) (b : List UInt8), lf nm = some b → crF keep tear n k l lf nm = some (crOne keep tear n nm k l b)
  | [], _, _, _, h => h
  | x :: l, k, lf, b, h => by
    rw [crF, crOne]
    refine crF_one keep tear n nm l (k + 1) _ _ ?_
    unfold crStep
    by_cases hk : keep.getD k false = true
    · rw [if_pos hk]
      unfold lfPut
      by_cases hx : x.key = nm
      · subst hx
        rw [if_pos rfl, if_pos ⟨rfl, hk⟩, h]
        rfl
      · rw [if_neg (fun q => hx q.symm), if_neg (fun q => hx q.1)]
        exact h
    · rw [if_neg hk, if_neg (fun q => hk q.2)]
      exact h

theorem put_behind {b xs : List UInt8} {off : Nat} (h : b.length ≤ off) : putAt b off xs = padTo b off ++ xs := by
  unfold putAt padTo
  have e1 : (b ++ List.replicate (off + xs.length - b.length) (0 : UInt8)).take off = b ++ List.replicate (off - b.length) 0 := by
    rw [List.take_append, List.take_of_length_le h, List.take_replicate, Nat.min_eq_left (by omega)]
  have e2 : (b ++ List.replicate (off + xs.length - b.length) (0 : UInt8)).drop (off + xs.length) = [] := by
    apply List.drop_eq_nil_of_le
    rw [List.length_append, List.length_replicate]
    omega
  rw [e1, e2, List.append_nil]
theorem padTo_self (b : List UInt8) : padTo b b.length = b := by
  unfold padTo
  rw [Nat.sub_self, List.replicate_zero, List.append_nil]
theorem padTo_pre (b : List UInt8) (n : Nat) : b <+: padTo b n := List.prefix_append _ _
theorem wrLen_le (n k : Nat) (tear : Int) (x : WrS) : wrLen n k tear x ≤ x.data.length := by
  unfold wrLen
  split
  · exact Nat.min_le_left _ _
  · exact Nat.le_refl _

/-- A file's writes, one by one: the program's way is the document's; what was safe stays; nothing grows over the file. -/
theorem crOne_doc (keep : List Bool) (tear : Int) (n : Nat) (nm fd : List UInt8) : ∀ (l : List WrS) (k : Nat) (b cur : List UInt8), Tile nm cur l fd → b.length ≤ cur.length →
    crOne keep tear n nm k l b = docF keep tear n nm fd k l b ∧ b <+: crOne keep tear n nm k l b ∧ (crOne keep tear n nm k l b).length ≤ fd.length
  | [], k, b, cur, h, hb => by
    have h : cur = fd := h
    subst h
    exact ⟨rfl, List.prefix_refl b, hb⟩
  | x :: l, k, b, cur, h, hb => by
    rw [crOne, docF]
    unfold docStep
    by_cases hx : x.key = nm
    · obtain ⟨h1, h2⟩ := (tile_hit hx).1 h
      obtain ⟨r, hr⟩ := tile_pre l _ h2
      by_cases hk : keep.getD k false = true
      · have e1 : (fd.drop x.off).take (wrLen n k tear x) = x.data.take (wrLen n k tear x) := by
          rw [← hr, List.append_assoc, List.drop_left' h1.symm, List.take_append_of_le_length (wrLen_le n k tear x)]
        have hlen : (padTo b x.off ++ x.data.take (wrLen n k tear x)).length ≤ (cur ++ x.data).length := by
          rw [List.length_append, padTo_length, List.length_take, List.length_append]
          omega
        rw [if_pos ⟨hx, hk⟩, if_pos ⟨hx, hk⟩, put_behind (by omega), e1]
        obtain ⟨g1, g2, g3⟩ := crOne_doc keep tear n nm fd l (k + 1) _ _ h2 hlen
        exact ⟨g1, ((padTo_pre b x.off).trans (List.prefix_append _ _)).trans g2, g3⟩
      · rw [if_neg (fun q => hk q.2), if_neg (fun q => hk q.2)]
        exact crOne_doc keep tear n nm fd l (k + 1) b _ h2 (by rw [List.length_append]; omega)
    · rw [if_neg (fun q => hx q.1), if_neg (fun q => hx q.1)]
      exact crOne_doc keep tear n nm fd l (k + 1) b cur ((tile_skip hx).1 h) hb

/-- If all is kept, the file is as it is read. -/
theorem crOne_all (keep : List Bool) (tear : Int) (n : Nat) (nm fd : List UInt8) (ht : tear < 0) : ∀ (l : List WrS) (k : Nat) (b : List UInt8), Tile nm b l fd → (∀ j, k ≤ j → j < k + l.length → keep.getD j false = true) → crOne keep tear n nm k l b = fd
  | [], _, _, h, _ => h
  | x :: l, k, b, h, hk => by
    rw [crOne]
    have hk0 := hk k (Nat.le_refl _) (by simp)
    have hk1 : ∀ j, k + 1 ≤ j → j < k + 1 + l.length → keep.getD j false = true := fun j a c => hk j (by omega) (by rw [List.length_cons]; omega)
    by_cases hx : x.key = nm
    · obtain ⟨h1, h2⟩ := (tile_hit hx).1 h
      have hw : wrLen n k tear x = x.data.length := by
        unfold wrLen
        rw [if_neg (fun q => by have := q.2; omega)]
      rw [if_pos ⟨hx, hk0⟩, hw, List.take_length, put_behind (by omega), h1, padTo_self]
      exact crOne_all keep tear n nm fd ht l (k + 1) _ h2 hk1
    · rw [if_neg (fun q => hx q.1)]
      exact crOne_all keep tear n nm fd ht l (k + 1) b ((tile_skip hx).1 h) hk1

theorem asc_find {l : List FileS} (h : Asc l) : ∀ f ∈ l, l.find? (fun g => g.key == f.key) = some f := by
  induction l with
  | nil => intro f hf; cases hf
  | cons g l ih =>
    obtain ⟨h1, h2⟩ := List.pairwise_cons.1 h
    intro f hf
    rw [List.find?_cons]
    rcases List.mem_cons.1 hf with e | e
    · subst e
      simp
    · have h3 := h1 f e
      have : (g.key == f.key) = false := beq_eq_false_iff_ne.2 (lt_ne h3)
      rw [this]
      exact ih h2 f e
theorem DInv.get {s : DiskS} (h : DInv s) {f : FileS} (hf : f ∈ s.files) : s.get f.key = some f := asc_find h.asc f hf

def DiskS.oneLeft (s : DiskS) (keep : List Bool) (tear : Int) (f : FileS) : List UInt8 := crOne keep tear s.pend.length f.key 0 s.pend f.safe
theorem left_one {s : DiskS} (h : DInv s) (keep : List Bool) (tear : Int) : s.left keep tear = s.files.map fun f => ⟨f.name, s.oneLeft keep tear f⟩ := by
  unfold DiskS.left
  apply List.map_congr_left
  intro f hf
  rw [crF_one keep tear _ f.key s.pend 0 _ f.safe (by rw [h.get hf]; rfl)]
  rfl
theorem oneLeft_pre {s : DiskS} (h : DInv s) (keep : List Bool) (tear : Int) {f : FileS} (hf : f ∈ s.files) : f.safe <+: s.oneLeft keep tear f := (crOne_doc keep tear _ f.key f.data s.pend 0 f.safe f.safe (h.tile f hf) (Nat.le_refl _)).2.1
theorem oneLeft_len {s : DiskS} (h : DInv s) (keep : List Bool) (tear : Int) {f : FileS} (hf : f ∈ s.files) : (s.oneLeft keep tear f).length ≤ f.data.length := (crOne_doc keep tear _ f.key f.data s.pend 0 f.safe f.safe (h.tile f hf) (Nat.le_refl _)).2.2
/-- What is left is what the document says. -/
theorem left_doc {s : DiskS} (h : DInv s) (keep : List Bool) (tear : Int) : s.left keep tear = s.docLeft keep tear := by
  rw [left_one h]
  unfold DiskS.docLeft
  apply List.map_congr_left
  intro f hf
  unfold docOne DiskS.oneLeft
  obtain ⟨r, hr⟩ := tile_pre _ _ (h.tile f hf)
  have e : f.data.take f.safe.length = f.safe := by
    rw [← hr, List.take_left' rfl]
  rw [e, (crOne_doc keep tear _ f.key f.data s.pend 0 f.safe f.safe (h.tile f hf) (Nat.le_refl _)).1]
/-- All files as they are read. -/
def DiskS.seen (s : DiskS) : List FlS := s.files.map fun f => ⟨f.name, f.data⟩
theorem left_all {s : DiskS} (h : DInv s) {keep : List Bool} {tear : Int} (ht : tear < 0) (hk : ∀ j, j < s.pend.length → keep.getD j false = true) : s.left keep tear = s.seen := by
  rw [left_one h]
  unfold DiskS.seen
  apply List.map_congr_left
  intro f hf
  unfold DiskS.oneLeft
  rw [crOne_all keep tear _ f.key f.data ht s.pend 0 f.safe (h.tile f hf) (fun j _ q => hk j (by omega))]
theorem left_nil {s : DiskS} (h : DInv s) (hp : s.pend = []) (keep : List Bool) (tear : Int) : s.left keep tear = s.seen := by
  rw [left_one h]
  unfold DiskS.seen
  apply List.map_congr_left
  intro f hf
  have ht := h.tile f hf
  rw [hp] at ht
  unfold DiskS.oneLeft
  rw [hp]
  have ht : f.safe = f.data := ht
  rw [crOne, ht]

/-! ## What the calls keep -/

theorem sum_cons (g : FileS) (l : List FileS) : sumF (g :: l) = g.data.length + sumF l := by
  unfold sumF
  rw [List.map_cons, List.sum_cons]
theorem sum_upd {nm : List UInt8} {u : FileS → FileS} {f : FileS} : ∀ l : List FileS, Asc l → l.find? (fun g => g.key == nm) = some f → sumF (updF nm u l) + f.data.length = sumF l + (u f).data.length
  | [], _, h => by cases h
  | g :: l, ha, h => by
    obtain ⟨h1, h2⟩ := List.pairwise_cons.1 ha
    rw [List.find?_cons] at h
    by_cases e : g.key = nm
    · have e2 : (g.key == nm) = true := beq_iff_eq.2 e
      rw [e2] at h
      injection h with h
      subst h
      have h3 : updF nm u l = l := upd_none l (fun x hx => by rw [← e]; exact fun q => lt_ne (h1 x hx) q.symm)
      have h4 : updF nm u (g :: l) = u g :: updF nm u l := by
        unfold updF
        rw [List.map_cons, if_pos e]
      rw [h4, h3, sum_cons, sum_cons]
      omega
    · have e2 : (g.key == nm) = false := beq_eq_false_iff_ne.2 e
      rw [e2] at h
      have h4 : updF nm u (g :: l) = g :: updF nm u l := by
        unfold updF
        rw [List.map_cons, if_neg e]
      have := sum_upd (u := u) l h2 h
      rw [h4, sum_cons, sum_cons]
      omega
theorem sum_del {nm : List UInt8} {f : FileS} : ∀ l : List FileS, Asc l → l.find? (fun g => g.key == nm) = some f → sumF (delF nm l) + f.data.length = sumF l
  | [], _, h => by cases h
  | g :: l, ha, h => by
    obtain ⟨h1, h2⟩ := List.pairwise_cons.1 ha
    rw [List.find?_cons] at h
    by_cases e : g.key = nm
    · have e2 : (g.key == nm) = true := beq_iff_eq.2 e
      rw [e2] at h
      injection h with h
      subst h
      have h3 : delF nm l = l := del_none l (fun x hx => by rw [← e]; exact fun q => lt_ne (h1 x hx) q.symm)
      have h4 : delF nm (g :: l) = delF nm l := by
        unfold delF
        rw [List.filter_cons, e2]
        rfl
      rw [h4, h3, sum_cons]
      omega
    · have e2 : (g.key == nm) = false := beq_eq_false_iff_ne.2 e
      rw [e2] at h
      have h4 : delF nm (g :: l) = g :: delF nm l := by
        unfold delF
        rw [List.filter_cons, e2]
        rfl
      have := sum_del l h2 h
      rw [h4, sum_cons, sum_cons]
      omega
theorem sum_put_new {f : FileS} : ∀ l : List FileS, (∀ g ∈ l, g.key ≠ f.key) → sumF (putF f l) = sumF l + f.data.length
  | [], _ => by rw [putF, sum_cons]; omega
  | g :: l, h => by
    rw [putF, if_neg (h g List.mem_cons_self)]
    split
    · rw [sum_cons]; omega
    · rw [sum_cons, sum_cons, sum_put_new l (fun x hx => h x (List.mem_cons_of_mem _ hx))]
      omega
theorem get_no {s : DiskS} {nm : List UInt8} (h : s.get nm = none) : ∀ g ∈ s.files, g.key ≠ nm := by
  intro g hg e
  have := List.find?_eq_none.1 (show s.files.find? _ = none from h) g hg
  simp [e] at this

theorem openS_inv {fs : List FlS} {room : Int} (hl : totLen fs ≤ 9223372036854775807) (ha : Asc (openS fs room).files) : DInv (openS fs room) := by
  refine ⟨ha, ?_, ?_, fun x hx => by cases hx⟩
  · have e : sumF (openS fs room).files = totLen fs := by
      unfold openS sumF totLen
      rw [List.map_map]
      rfl
    rw [e]
    show IntKind.i64.wrap (totLen fs : Int) = _
    rw [IntKind.wrap_i64]
    omega
  · intro f hf
    obtain ⟨x, _, rfl⟩ := List.mem_map.1 hf
    exact rfl

/-- The disk behind an Append is one. -/
theorem DInv.app {s : DiskS} (h : DInv s) (nm : ByteArray) (b : List UInt8) : DInv (s.app nm b) := by
  have hnew : s.get nm.toList = none → s.fileOr nm = ⟨nm, [], []⟩ := fun e => by unfold DiskS.fileOr; rw [e]; rfl
  have hold : ∀ f, s.get nm.toList = some f → s.fileOr nm = f := fun f e => by unfold DiskS.fileOr; rw [e]; rfl
  have hfk : (⟨nm, (s.fileOr nm).data ++ b, (s.fileOr nm).safe⟩ : FileS).key = nm.toList := rfl
  have hxk : (⟨nm, (s.fileOr nm).data.length, b⟩ : WrS).key = nm.toList := rfl
  have htile : Tile nm.toList (s.fileOr nm).safe s.pend (s.fileOr nm).data := by
    rcases e : s.get nm.toList with _ | f
    · rw [hnew e]
      exact (tile_none s.pend [] (fun x hx q => h.there x hx (by rw [q]; exact e))).2 rfl
    · rw [hold f e]
      obtain ⟨h1, h2⟩ := DiskS.get_mem e
      have := h.tile f h1
      rw [h2] at this
      exact this
  refine ⟨asc_put _ _ h.asc, ?_, fun f hf => ?_, fun x hx => ?_⟩
  · show s.used + (b.length : Int) = _
    have e : sumF (putF ⟨nm, (s.fileOr nm).data ++ b, (s.fileOr nm).safe⟩ s.files) = sumF s.files + b.length := by
      rcases e : s.get nm.toList with _ | f
      · rw [sum_put_new (f := ⟨nm, (s.fileOr nm).data ++ b, (s.fileOr nm).safe⟩) _ (fun g hg => by rw [hfk]; exact get_no e g hg), hnew e]
        rfl
      · rw [hold f e]
        have hk := (DiskS.get_mem e).2
        have hu : putF (⟨nm, f.data ++ b, f.safe⟩ : FileS) s.files = updF nm.toList (fun g => ⟨nm, g.data ++ b, g.safe⟩) s.files := by
          have e2 : nm = f.name := name_inj hk.symm
          subst e2
          have : putF ((catF b) f) s.files = updF f.name.toList (catF b) s.files := put_upd (u := catF b) (fun _ => rfl) s.files h.asc e
          rw [show (⟨f.name, f.data ++ b, f.safe⟩ : FileS) = catF b f from rfl, this]
          unfold updF
          apply List.map_congr_left
          intro g hg
          by_cases q : g.key = f.name.toList
          · rw [if_pos q, if_pos q]
            have : g.name = f.name := name_inj q
            unfold catF
            rw [← this]
          · rw [if_neg q, if_neg q]
        rw [hu]
        have := sum_upd (u := fun g => (⟨nm, g.data ++ b, g.safe⟩ : FileS)) s.files h.asc e
        simp only [List.length_append] at this
        omega
    rw [h.used]
    show ((sumF s.files : Nat) : Int) + (b.length : Int) = ((sumF (putF _ s.files) : Nat) : Int)
    rw [e]
    omega
  · rcases mem_put _ f s.files h.asc hf with e | ⟨e1, e2⟩
    · subst e
      exact tile_snoc hxk rfl s.pend _ htile
    · exact tile_other (fun q => e2 (by rw [hfk, ← hxk, q])) s.pend _ (h.tile f e1)
  · show (putF _ s.files).find? _ ≠ none
    rw [get_put]
    split
    · simp
    · rename_i hne
      rcases List.mem_append.1 hx with e | e
      · exact h.there x e
      · have e : x = _ := List.mem_singleton.1 e
        rw [e] at hne
        exact absurd hxk hne

theorem forget_there {s : DiskS} {nm : List UInt8} {x : WrS} (hx : x ∈ (s.forget nm).pend) : x ∈ s.pend ∧ x.key ≠ nm := by
  obtain ⟨h1, h2⟩ := List.mem_filter.1 hx
  refine ⟨h1, fun e => ?_⟩
  unfold notFor at h2
  rw [beq_iff_eq.2 e] at h2
  cases h2
/-- A file cut has only safe octets. -/
theorem DInv.cut {s : DiskS} (h : DInv s) {f : FileS} {n : Nat} (hg : s.get f.key = some f) (hn : n ≤ f.data.length) : DInv (s.cut f n) := by
  have hfiles : (s.cut f n).files = updF f.key safeF (updF f.key (cutF n) s.files) := rfl
  have hpend : (s.cut f n).pend = (s.forget f.key).pend := rfl
  have hused : (s.cut f n).used = s.used - ((f.data.length : Int) - (n : Int)) := rfl
  refine ⟨?_, ?_, fun g hg' => ?_, fun x hx => ?_⟩
  · rw [hfiles]
    exact upd_asc (u := safeF) (fun _ => rfl) (upd_asc (u := cutF n) (fun _ => rfl) h.asc)
  · have e1 := sum_upd (u := cutF n) s.files h.asc hg
    have e2 : (updF f.key (cutF n) s.files).find? (fun g => g.key == f.key) = some (cutF n f) := by
      rw [upd_find (u := cutF n) (fun _ => rfl), show s.files.find? (fun x => x.key == f.key) = some f from hg]
      simp
    have e3 := sum_upd (u := safeF) _ (upd_asc (u := cutF n) (nm := f.key) (fun _ => rfl) h.asc) e2
    have e4 : (cutF n f).data.length = n := by
      show (f.data.take n).length = n
      rw [List.length_take]
      omega
    have e5 : (safeF (cutF n f)).data = (cutF n f).data := rfl
    rw [hfiles, hused, h.used]
    rw [e5] at e3
    omega
  · rw [hfiles] at hg'
    rw [hpend]
    unfold updF at hg'
    obtain ⟨g1, hg1, rfl⟩ := List.mem_map.1 hg'
    obtain ⟨g2, hg2, rfl⟩ := List.mem_map.1 hg1
    by_cases q : g2.key = f.key
    · have q2 : (cutF n g2).key = f.key := q
      rw [if_pos q, if_pos q2]
      exact (tile_none _ _ (fun x hx e => (forget_there hx).2 (e.trans q))).2 rfl
    · rw [if_neg q, if_neg q]
      exact tile_filter q _ _ (h.tile g2 hg2)
  · rw [hpend] at hx
    have := h.there x (forget_there hx).1
    show (updF f.key safeF (updF f.key (cutF n) s.files)).find? _ ≠ none
    rw [upd_find (u := safeF) (fun _ => rfl), upd_find (u := cutF n) (fun _ => rfl)]
    intro e
    apply this
    unfold DiskS.get
    simpa using e
/-- A file removed. -/
theorem DInv.rem {s : DiskS} (h : DInv s) {f : FileS} (hg : s.get f.key = some f) : DInv (s.rem f) := by
  have hfiles : (s.rem f).files = delF f.key s.files := rfl
  have hpend : (s.rem f).pend = (s.forget f.key).pend := rfl
  have hused : (s.rem f).used = s.used - (f.data.length : Int) := rfl
  refine ⟨?_, ?_, fun g hg' => ?_, fun x hx => ?_⟩
  · rw [hfiles]
    exact del_asc h.asc
  · have e1 := sum_del s.files h.asc hg
    rw [hfiles, hused, h.used]
    omega
  · rw [hfiles] at hg'
    rw [hpend]
    unfold delF at hg'
    obtain ⟨h1, h2⟩ := List.mem_filter.1 hg'
    refine tile_filter (fun q => ?_) _ _ (h.tile g h1)
    rw [beq_iff_eq.2 q] at h2
    cases h2
  · rw [hpend] at hx
    obtain ⟨h1, h2⟩ := forget_there hx
    show (delF f.key s.files).find? _ ≠ none
    rw [find_del, if_neg h2]
    exact h.there x h1

theorem safeF_safeF (g : FileS) : safeF (safeF g) = safeF g := rfl
theorem syncAll_files : ∀ (ps : List WrS) (t : DiskS), (syncAll ps t).files = t.files.map (fun g => if ps.any (fun x => x.key == g.key) then safeF g else g) ∧ (syncAll ps t).room = t.room ∧ (syncAll ps t).used = t.used
  | [], t => by
    refine ⟨?_, rfl, rfl⟩
    show t.files = _
    simp
  | x :: l, t => by
    obtain ⟨h1, h2, h3⟩ := syncAll_files l (t.upd x.key safeF)
    have e : syncAll (x :: l) t = syncAll l (t.upd x.key safeF) := rfl
    rw [e]
    refine ⟨?_, h2, h3⟩
    rw [h1]
    show (updF x.key safeF t.files).map _ = _
    unfold updF
    rw [List.map_map]
    apply List.map_congr_left
    intro g _
    simp only [Function.comp]
    rw [List.any_cons]
    by_cases q : g.key = x.key
    · have q2 : (safeF g).key = g.key := rfl
      rw [if_pos q, q2, beq_iff_eq.2 q.symm, Bool.true_or, if_pos rfl]
      split <;> rfl
    · rw [if_neg q, beq_eq_false_iff_ne.2 (fun e => q e.symm), Bool.false_or]
/-- The program's Sync is the document's. -/
theorem sync_doc {s : DiskS} (h : DInv s) : s.sync = s.sync2 := by
  obtain ⟨h1, h2, h3⟩ := syncAll_files s.pend s
  have e : (syncAll s.pend s).files = s.files.map safeF := by
    rw [h1]
    apply List.map_congr_left
    intro g hg
    rcases q : s.pend.any (fun x => x.key == g.key) with _ | _
    · rw [if_neg (by simp)]
      have : g.safe = g.data := (tile_none s.pend g.safe (fun x hx e => by
        have := List.any_eq_false.1 q x hx
        simp [e] at this)).1 (h.tile g hg)
      cases g
      simp only [safeF] at this ⊢
      rw [this]
    · rw [if_pos rfl]
  show (⟨(syncAll s.pend s).files, [], (syncAll s.pend s).room, (syncAll s.pend s).used⟩ : DiskS) = ⟨s.files.map safeF, [], s.room, s.used⟩
  rw [e, h2, h3]
theorem DInv.sync {s : DiskS} (h : DInv s) : DInv s.sync2 := by
  refine ⟨?_, ?_, fun g hg => ?_, fun x hx => by cases hx⟩
  · show Asc (s.files.map safeF)
    unfold Asc
    rw [List.pairwise_map]
    exact h.asc
  · rw [show s.sync2.used = s.used from rfl, h.used]
    show _ = ((sumF (s.files.map safeF) : Nat) : Int)
    unfold sumF
    rw [List.map_map]
    rfl
  · obtain ⟨g0, _, rfl⟩ := List.mem_map.1 (show g ∈ s.files.map safeF from hg)
    exact rfl
theorem mem_le_sum {f : FileS} : ∀ l : List FileS, f ∈ l → f.data.length ≤ sumF l
  | g :: l, h => by
    rw [sum_cons]
    rcases List.mem_cons.1 h with e | e
    · rw [e]; omega
    · have := mem_le_sum l e
      omega

end Go.Proofs.Ytnlmkfncdklcdaa
