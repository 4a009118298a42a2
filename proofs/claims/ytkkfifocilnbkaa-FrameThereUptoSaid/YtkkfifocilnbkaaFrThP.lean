/-
  The plain part of FrameThere: packed frames, cut anywhere, are parsed again.
-/
import Derived.Test.YtkkfifocilnbkaaHello
import Derived.Test.YtkkfifocilnbkaaFrOpen
namespace Go.Proofs.Ytkkfifocilnbkaa
open Go.RowKit

def Fr.ok (f : Fr) : Prop := knownB f.t = true ∧ 0 ≤ f.ch ∧ f.ch ≤ 65535 ∧ f.pl.length ≤ 1048576
def Fr.pk (f : Fr) : List UInt8 := packed f.t f.ch f.pl

theorem packErr_iff (t ch : Int) : packErr t ch = 0 ↔ knownB t = true ∧ 0 ≤ ch ∧ ch ≤ 65535 := by
  unfold packErr
  rcases knownB t with _ | _
  · simp
  · simp only [if_true, true_and]
    split
    · constructor
      · intro h; cases h
      · intro h; omega
    · constructor
      · intro _; omega
      · intro _; rfl

theorem mid (A B C : List UInt8) (r a b : Nat) (ha : A.length = a) (hb : B.length = b) (h : a + b ≤ r) : (((A ++ (B ++ C)).take r).drop a).take b = B := by
  subst ha hb
  rw [List.drop_take, List.drop_left, List.take_take, Nat.min_eq_left (by omega), List.take_left]

theorem known_val (t : Int) (h : knownB t = true) : 0 ≤ t ∧ t < 256 := by
  unfold knownB at h
  have : t = 1 ∨ t = 2 ∨ t = 3 ∨ t = 8 := by simpa [or_assoc] using h
  omega

theorem pk_split (f : Fr) (X : List UInt8) : f.pk ++ X = be 1 f.t ++ (be 2 f.ch ++ (be 4 (f.pl.length : Int) ++ (f.pl ++ (be 1 206 ++ X)))) := by
  unfold Fr.pk packed
  simp only [List.append_assoc]

theorem head_kind (f : Fr) (hf : f.ok) (X : List UInt8) (r : Nat) (h : 1 ≤ r) : (hkind ((f.pk ++ X).take r) : Int) = f.t := by
  obtain ⟨h1, _⟩ := hf
  have hv := known_val _ h1
  have e := mid [] (be 1 f.t) (be 2 f.ch ++ (be 4 (f.pl.length : Int) ++ (f.pl ++ (be 1 206 ++ X)))) r 0 1 rfl (be_length _ _) (by omega)
  rw [List.nil_append, List.drop_zero, ← pk_split] at e
  unfold hkind
  rw [e, show f.t = ((f.t.toNat : Nat) : Int) by omega, beNat_be 1 f.t.toNat (by show f.t.toNat < 256; omega)]
theorem head_head (f : Fr) (hf : f.ok) (X : List UInt8) (r : Nat) (h : 1 ≤ r) : ((((f.pk ++ X).take r).headD 0).toNat : Int) = f.t := by
  rw [← head_kind f hf X r h]
  have hl : 0 < ((f.pk ++ X).take r).length := by
    rw [List.length_take, List.length_append]
    have : f.pk.length = f.pl.length + 8 := packed_length _ _ _
    omega
  generalize (f.pk ++ X).take r = l at hl
  cases l with
  | nil => simp at hl
  | cons a l => simp [hkind, beNat]
theorem head_chan (f : Fr) (hf : f.ok) (X : List UInt8) (r : Nat) (h : 3 ≤ r) : (hchan ((f.pk ++ X).take r) : Int) = f.ch := by
  obtain ⟨_, h2, h3, _⟩ := hf
  have e := mid (be 1 f.t) (be 2 f.ch) (be 4 (f.pl.length : Int) ++ (f.pl ++ (be 1 206 ++ X))) r 1 2 (be_length _ _) (be_length _ _) (by omega)
  rw [← pk_split] at e
  unfold hchan
  rw [e, show f.ch = ((f.ch.toNat : Nat) : Int) by omega, beNat_be 2 f.ch.toNat (by show f.ch.toNat < 65536; omega)]
theorem head_size (f : Fr) (hf : f.ok) (X : List UInt8) (r : Nat) (h : 7 ≤ r) : hsize ((f.pk ++ X).take r) = f.pl.length := by
  obtain ⟨_, _, _, h4⟩ := hf
  have e := mid (be 1 f.t ++ be 2 f.ch) (be 4 (f.pl.length : Int)) (f.pl ++ (be 1 206 ++ X)) r 3 4 (by simp [be_length]) (be_length _ _) (by omega)
  rw [List.append_assoc, ← pk_split] at e
  unfold hsize
  rw [e]
  exact beNat_be 4 f.pl.length (by show f.pl.length < 4294967296; omega)
theorem pay_of (f : Fr) (X : List UInt8) (r : Nat) (h : 7 + f.pl.length ≤ r) : (((f.pk ++ X).take r).drop 7).take f.pl.length = f.pl := by
  have e := mid (be 1 f.t ++ (be 2 f.ch ++ be 4 (f.pl.length : Int))) f.pl (be 1 206 ++ X) r 7 f.pl.length (by simp [be_length]) rfl h
  rw [List.append_assoc, List.append_assoc, ← pk_split] at e
  exact e
theorem end_of (f : Fr) (X : List UInt8) (r : Nat) (h : 8 + f.pl.length ≤ r) : ((f.pk ++ X).take r).getD (7 + f.pl.length) 0 = 206 := by
  have e := mid (be 1 f.t ++ (be 2 f.ch ++ (be 4 (f.pl.length : Int) ++ f.pl))) (be 1 206) X r (7 + f.pl.length) 1 (by simp [be_length]; omega) rfl (by omega)
  rw [List.append_assoc, List.append_assoc, List.append_assoc, ← pk_split] at e
  have h1 : ((((f.pk ++ X).take r).drop (7 + f.pl.length)).take 1)[0]? = some 206 := by rw [e]; rfl
  rw [List.getElem?_take, if_pos (by decide), List.getElem?_drop, Nat.add_zero] at h1
  rw [List.getD, h1]
  rfl

theorem next_short (f : Fr) (hf : f.ok) (X : List UInt8) (r : Nat) (mx : Int) (hm : (f.pl.length : Int) + 8 ≤ mx) (h : r < f.pl.length + 8) : nextOf ((f.pk ++ X).take r) mx = .not 0 ((f.pk ++ X).take r) := by
  have hl : ((f.pk ++ X).take r).length = r := by
    rw [List.length_take, List.length_append]
    have : f.pk.length = f.pl.length + 8 := packed_length _ _ _
    omega
  rw [nextOf]
  rw [if_neg (by
    rw [hl]
    rintro ⟨a, b⟩
    rw [head_head f hf X r a, hf.1] at b
    cases b)]
  rw [hl]
  by_cases h7 : r < 7
  · rw [if_pos h7]
  · rw [if_neg h7, head_size f hf X r (by omega), if_neg (by omega), if_pos (by omega)]

theorem next_full (f : Fr) (hf : f.ok) (X : List UInt8) (r : Nat) (mx : Int) (hm : (f.pl.length : Int) + 8 ≤ mx) (h : f.pl.length + 8 ≤ r) (hr : r ≤ f.pl.length + 8 + X.length) : nextOf ((f.pk ++ X).take r) mx = ⟨f.t, f.ch, f.pl, true, 0, X.take (r - (f.pl.length + 8))⟩ := by
  have hk : f.pk.length = f.pl.length + 8 := packed_length _ _ _
  have hl : ((f.pk ++ X).take r).length = r := by
    rw [List.length_take, List.length_append]
    omega
  rw [nextOf]
  rw [if_neg (by
    rw [hl]
    rintro ⟨a, b⟩
    rw [head_head f hf X r a, hf.1] at b
    cases b)]
  rw [hl, if_neg (by omega), head_size f hf X r (by omega), if_neg (by omega), if_neg (by omega), if_neg (by rw [end_of f X r (by omega)]; simp), head_kind f hf X r (by omega), head_chan f hf X r (by omega), pay_of f X r (by omega)]
  congr 1
  rw [show 8 + f.pl.length = f.pk.length by omega, List.drop_take, List.drop_left, hk]

theorem next_none (mx : Int) : nextOf [] mx = .not 0 [] := rfl

theorem hello_short (Y : List UInt8) (r : Nat) (h : r < 8) : helloOf ((helloBs ++ Y).take r) = ⟨false, 0, (helloBs ++ Y).take r⟩ := by
  have e : (helloBs ++ Y).take r = helloBs.take r := List.take_append_of_le_length (by show r ≤ 8; omega)
  have hl : (helloBs.take r).length = r := by rw [List.length_take]; show min r 8 = r; omega
  unfold helloOf
  rw [e, if_neg (by rw [hl, List.take_of_length_le (by rw [hl]; omega)]; simp), hl, if_pos h]
theorem hello_full (Y : List UInt8) (r : Nat) (h : 8 ≤ r) (hr : r ≤ 8 + Y.length) : helloOf ((helloBs ++ Y).take r) = ⟨true, 0, Y.take (r - 8)⟩ := by
  have h8 : helloBs.length = 8 := rfl
  have hl : ((helloBs ++ Y).take r).length = r := by rw [List.length_take, List.length_append, h8]; omega
  unfold helloOf
  rw [hl, if_neg (by
    rw [List.take_take, Nat.min_eq_left h, List.take_of_length_le (show helloBs.length ≤ r by omega), List.take_append_of_le_length (by omega), List.take_of_length_le (by omega)]
    simp), if_neg (by omega)]
  congr 1
  rw [List.drop_take, show (8 : Nat) = helloBs.length from rfl, List.drop_left]

def flat (fs : List Fr) : List UInt8 := fs.flatMap Fr.pk
def wholeOf (fs : List Fr) : List UInt8 := helloBs ++ flat fs
theorem flat_snoc (fs : List Fr) (j : Nat) (h : j < fs.length) : flat (fs.take (j + 1)) = flat (fs.take j) ++ (fs[j]).pk := by
  unfold flat
  rw [List.take_succ_eq_append_getElem h, List.flatMap_append]
  simp
theorem flat_split (fs : List Fr) (j : Nat) : flat fs = flat (fs.take j) ++ flat (fs.drop j) := by
  unfold flat
  rw [← List.flatMap_append, List.take_append_drop]
theorem flat_drop (fs : List Fr) (j : Nat) (h : j < fs.length) : flat (fs.drop j) = (fs[j]).pk ++ flat (fs.drop (j + 1)) := by
  unfold flat
  rw [List.drop_eq_getElem_cons h, List.flatMap_cons]

/-- Where the reading stands: octets handed over, frames got, the header taken off?, what waits. -/
def ThSt (fs : List Fr) (at_ got : Nat) (hello : Bool) (wait : List UInt8) : Prop :=
  at_ ≤ (wholeOf fs).length ∧ got ≤ fs.length ∧
    (hello = false → at_ < 8 ∧ got = 0 ∧ wait = (wholeOf fs).take at_) ∧
    (hello = true → ∃ r, at_ = 8 + (flat (fs.take got)).length + r ∧ wait = (flat (fs.drop got)).take r ∧ r ≤ (flat (fs.drop got)).length)
/-- No frame is whole in what waits. -/
def ThQ (fs : List Fr) (got : Nat) (hello : Bool) (wait : List UInt8) : Prop := hello = true → ∀ h : got < fs.length, wait.length < (fs[got]).pl.length + 8

theorem whole_length (fs : List Fr) : (wholeOf fs).length = 8 + (flat fs).length := by unfold wholeOf; rw [List.length_append]; rfl
theorem ThSt.start (fs : List Fr) : ThSt fs 0 0 false [] := ⟨Nat.zero_le _, Nat.zero_le _, fun _ => ⟨by decide, rfl, rfl⟩, (fun h => by cases h)⟩

/-- The header is taken off. -/
theorem ThSt.hello {fs : List Fr} {at_ n : Nat} {wait : List UInt8} {got : Nat} (h : ThSt fs at_ got false wait) (hn : at_ + n ≤ (wholeOf fs).length) :
    helloOf (wait ++ ((wholeOf fs).drop at_).take n) = ⟨decide (8 ≤ at_ + n), 0, if 8 ≤ at_ + n then (flat fs).take (at_ + n - 8) else wait ++ ((wholeOf fs).drop at_).take n⟩ ∧
      ThSt fs (at_ + n) got (decide (8 ≤ at_ + n)) (if 8 ≤ at_ + n then (flat fs).take (at_ + n - 8) else wait ++ ((wholeOf fs).drop at_).take n) := by
  obtain ⟨_, _, h1, _⟩ := h
  obtain ⟨h2, rfl, rfl⟩ := h1 rfl
  have hl := whole_length fs
  rw [← List.take_add]
  by_cases h8 : 8 ≤ at_ + n
  · rw [if_pos h8]
    have hd : decide (8 ≤ at_ + n) = true := by simpa using h8
    rw [hd]
    refine ⟨hello_full _ _ h8 (by omega), hn, Nat.zero_le _, (fun q => by cases q), fun _ => ⟨at_ + n - 8, by simp [flat]; omega, by simp, by simp; omega⟩⟩
  · rw [if_neg h8]
    have hd : decide (8 ≤ at_ + n) = false := by simpa using h8
    rw [hd]
    exact ⟨hello_short _ _ (by omega), hn, Nat.zero_le _, fun _ => ⟨by omega, rfl, rfl⟩, (fun q => by cases q)⟩
theorem ThSt.fed {fs : List Fr} {at_ n : Nat} {wait : List UInt8} {got : Nat} (h : ThSt fs at_ got true wait) (hn : at_ + n ≤ (wholeOf fs).length) :
    ThSt fs (at_ + n) got true (wait ++ ((wholeOf fs).drop at_).take n) := by
  obtain ⟨_, h0, _, h1⟩ := h
  obtain ⟨r, h2, rfl, h3⟩ := h1 rfl
  have hl := whole_length fs
  have hs := congrArg List.length (flat_split fs got)
  rw [List.length_append] at hs
  refine ⟨hn, h0, (fun q => by cases q), fun _ => ⟨r + n, by omega, ?_, by omega⟩⟩
  have e : (wholeOf fs).drop at_ = (flat (fs.drop got)).drop r := by
    unfold wholeOf
    rw [flat_split fs got, h2, ← List.append_assoc, ← List.drop_drop, show 8 + (flat (fs.take got)).length = (helloBs ++ flat (fs.take got)).length by rw [List.length_append]; rfl, List.drop_left]
  rw [e, List.take_add]
/-- The next frame, or none yet. -/
theorem ThSt.next {fs : List Fr} {at_ got : Nat} {wait : List UInt8} {mx : Int} (h : ThSt fs at_ got true wait) (hok : ∀ f ∈ fs, f.ok ∧ (f.pl.length : Int) + 8 ≤ mx) :
    (nextOf wait mx = .not 0 wait ∧ ThQ fs got true wait) ∨ ∃ (hg : got < fs.length) (wait' : List UInt8), nextOf wait mx = ⟨(fs[got]).t, (fs[got]).ch, (fs[got]).pl, true, 0, wait'⟩ ∧ ThSt fs at_ (got + 1) true wait' := by
  obtain ⟨h0, h1, _, h2⟩ := h
  obtain ⟨r, h3, rfl, h4⟩ := h2 rfl
  by_cases hg : got < fs.length
  · obtain ⟨f1, f2⟩ := hok fs[got] (List.getElem_mem hg)
    have hk : (fs[got]).pk.length = (fs[got]).pl.length + 8 := packed_length _ _ _
    rw [flat_drop fs got hg] at h4 ⊢
    rw [List.length_append] at h4
    by_cases hr : r < (fs[got]).pl.length + 8
    · refine .inl ⟨next_short _ f1 _ r mx f2 hr, fun _ _ => ?_⟩
      rw [List.length_take, List.length_append]
      omega
    · refine .inr ⟨hg, _, next_full _ f1 _ r mx f2 (by omega) (by omega), h0, by omega, (fun q => by cases q), fun _ => ⟨r - ((fs[got]).pl.length + 8), ?_, rfl, by omega⟩⟩
      rw [flat_snoc fs got hg, List.length_append]
      omega
  · have : fs.drop got = [] := List.drop_eq_nil_of_le (by omega)
    rw [this]
    exact .inl ⟨by simp [flat, next_none], fun _ q => absurd q hg⟩
theorem ThSt.len {fs : List Fr} {at_ got : Nat} {hello : Bool} {wait : List UInt8} (h : ThSt fs at_ got hello wait) : wait.length ≤ at_ := by
  obtain ⟨h0, h1, h2, h3⟩ := h
  rcases hello with _ | _
  · obtain ⟨_, _, rfl⟩ := h2 rfl
    rw [List.length_take]
    omega
  · obtain ⟨r, h4, rfl, h5⟩ := h3 rfl
    rw [List.length_take]
    omega
/-- At the end all is read. -/
theorem ThSt.done {fs : List Fr} {at_ got : Nat} {hello : Bool} {wait : List UInt8} (h : ThSt fs at_ got hello wait) (hq : ThQ fs got hello wait) (he : at_ = (wholeOf fs).length) : hello = true ∧ got = fs.length ∧ wait = [] := by
  obtain ⟨h0, h1, h2, h3⟩ := h
  have hl := whole_length fs
  have ht : hello = true := by
    rcases hello with _ | _
    · have := (h2 rfl).1; omega
    · rfl
  obtain ⟨r, h4, rfl, h5⟩ := h3 ht
  have hs := congrArg List.length (flat_split fs got)
  rw [List.length_append] at hs
  have hr : r = (flat (fs.drop got)).length := by omega
  have hg : got = fs.length := by
    rcases Nat.lt_or_ge got fs.length with hg | hg
    · exfalso
      have h6 := hq ht hg
      have hk : (fs[got]).pk.length = (fs[got]).pl.length + 8 := packed_length _ _ _
      rw [hr, List.take_length, flat_drop fs got hg, List.length_append] at h6
      omega
    · omega
  refine ⟨ht, hg, ?_⟩
  rw [hg, List.drop_eq_nil_of_le (Nat.le_refl _)]
  simp [flat]

end Go.Proofs.Ytkkfifocilnbkaa
