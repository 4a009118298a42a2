/-
  DiskPlays: a call that is an Append.
-/
import Derived.Test.YtnlmkfncdklcdaaDkAny
import Derived.Test.YtnlmkfncdklcdaaDkArg2
import Derived.Deep.RegionHeld3
import Derived.Test.YtnlmkfncdklcdaaDkWipe
import Derived.Test.YtnlmkfncdklcdaaDkSame
import Derived.BigQuiet
namespace Go.Proofs.Ytnlmkfncdklcdaa
open Go.RowKit

theorem and7 (x : Int) : bits .and .i64 x 7 = ((x % 8).toNat : Int) := by
  have h1 : (BitVec.ofInt 64 x).toNat % 8 = (x % 8).toNat := by
    rw [BitVec.toNat_ofInt]
    omega
  show IntKind.i64.wrap ((BitVec.ofInt 64 x &&& BitVec.ofInt 64 7).toNat : Int) = _
  rw [BitVec.toNat_and, show (BitVec.ofInt 64 7).toNat = 7 from rfl, show (BitVec.ofInt 64 x).toNat &&& 7 = (BitVec.ofInt 64 x).toNat % 8 from Nat.and_two_pow_sub_one_eq_mod _ 3, h1, IntKind.wrap_i64]
  omega

/-- Both disks, the program's and the document's, are this one; they lie apart, behind B. -/
structure Both (w : World) (B : Nat) (F G : Nat → Prop) (p q : Nat) (s : DiskS) (N : Nat) : Prop where
  d : DAt w F p s N
  r : RAt w G q s
  inv : DInv s
  apart : ∀ k, F k → G k → False
  f : ∀ k, F k → B ≤ k
  g : ∀ k, G k → B ≤ k
  b : B ≤ w.heap.size
/-- A call's parts lie ahead of B. -/
structure OpAt (w : World) (B : Nat) (op : DOp) : Prop where
  data : RB w (· < B) op.addr op.data
  keep : Rd w (· < B) op.fate.addr (op.fate.keep.map Value.bool)
  tear : -9223372036854775808 ≤ op.fate.tear ∧ op.fate.tear ≤ 9223372036854775807
  cap : op.data.length ≤ op.cap ∧ op.cap ≤ maxLen
def StepPost (w : World) (B p q : Nat) (M : Int) (N : Nat) (e : Ending) (w' : World) : Prop :=
  e = .returned (.bool true) ∧ ∃ F' G' s' N', Both w' B F' G' p q s' N' ∧ s'.big ≤ M ∧ N' ≤ N + 1 ∧ Kept (B ≤ ·) w w'
def DOp.arg (op : DOp) : Value := .agg #[.int .i64 op.kind, .int .i64 op.n, .string op.name, .slice op.addr op.data.length op.cap, .slice op.fate.addr op.fate.keep.length op.fate.cap, .int .i64 op.fate.tear]

/-- The first j octets are written over. -/
def wiped (b : UInt8) (xs : List UInt8) (j : Nat) : List UInt8 := List.replicate j b ++ xs.drop j
theorem wiped_zero (b : UInt8) (xs : List UInt8) : wiped b xs 0 = xs := rfl
theorem wiped_length (b : UInt8) (xs : List UInt8) (j : Nat) (h : j ≤ xs.length) : (wiped b xs j).length = xs.length := by
  unfold wiped
  rw [List.length_append, List.length_replicate, List.length_drop]
  omega
theorem wiped_get (b : UInt8) (xs : List UInt8) (j : Nat) (h : j < xs.length) (h' : j < (wiped b xs j).length) : (wiped b xs j)[j] = xs[j] := by
  have e : (wiped b xs j)[j]? = some xs[j] := by
    unfold wiped
    rw [List.getElem?_append_right (by simp), List.length_replicate, Nat.sub_self, List.getElem?_drop]
    simp
  rw [List.getElem?_eq_getElem h'] at e
  exact Option.some.inj e
theorem wiped_set (b : UInt8) (xs : List UInt8) (j : Nat) (h : j < xs.length) : (wiped b xs j).set j b = wiped b xs (j + 1) := by
  unfold wiped
  rw [List.set_append_right _ _ (by simp), List.length_replicate, Nat.sub_self, List.drop_eq_getElem_cons h, List.set_cons_zero, List.replicate_succ', List.append_assoc]
  rfl

set_option maxRecDepth 100000 in
set_option maxHeartbeats 6400000 in
theorem step_app (op : DOp) (w : World) (B p q : Nat) (F G : Nat → Prop) (s : DiskS) (N : Nat) (h : Both w B F G p q s N) (ho : OpAt w B op) (hs : s.big + (op.bulk : Int) ≤ 4194304) (hN : N ≤ 4194304) (kk : Int) (hk : kk = 0 ∨ kk = 1 ∨ kk = 2) (hkk : bits .and .i64 op.kind 7 = kk) :
    Calls Try.prog 23 #[.pointer (some ⟨p, 0, none⟩), .pointer (some ⟨q, 0, none⟩), op.arg] w (StepPost w B p q (s.big + (op.bulk : Int)) N) := by
  unfold DOp.arg
  have HH := Lib.hid h
  have HO := Lib.hid ho
  have HS := Lib.hid hs
  have hby : op.name.size + op.data.length + 4 ≤ op.bulk := by unfold DOp.bulk; omega
  have Hbp := Lib.hid (big_parts h.inv (Int.le_refl s.big))
  have Hap := Lib.hid (big_app s op.name op.data)
  have hFl := Lib.hid h.d.lt
  have hGl := Lib.hid h.r.lt
  have hb0 := h.b
  have HK5 : Hid (Kept noneS w (w.alloc (.cells #[.int .i64 op.kind, .int .i64 op.n, .string op.name, .slice op.addr op.data.length op.cap, .slice op.fate.addr op.fate.keep.length op.fate.cap, .int .i64 op.fate.tear] 45))) := Lib.hid ((Kept.refl _ _).alloc _)
  have HB5 := Lib.hid (Blk.new w 45 #[.int .i64 op.kind, .int .i64 op.n, .string op.name, .slice op.addr op.data.length op.cap, .slice op.fate.addr op.fate.keep.length op.fate.cap, .int .i64 op.fate.tear])
  have hbg : 0 ≤ s.big := by
    have h1 := h.inv.used
    unfold DiskS.big
    omega
  have hdl : op.data.length ≤ 4194304 ∧ op.name.size ≤ 4194304 := by omega
  clear h ho hs
  obtain ⟨ae, hae⟩ : ∃ ae, s.appErr op.name op.data.length = ae := ⟨_, rfl⟩
  have HAe := Lib.hid hae
  have hee : (ae == ae) = true := by simp
  clear hae
  generalize hP : StepPost w B p q (s.big + (op.bulk : Int)) N = Post
  have HP := Lib.hid hP
  clear hP
  rcases hk with rfl | rfl | rfl
  all_goals
    go_enter Try.func23, Try.ntmps23
    go_upto_region 14 with (fail)
    generalize w.alloc (.cells #[.int .i64 op.kind, .int .i64 op.n, .string op.name, .slice op.addr op.data.length op.cap, .slice op.fate.addr op.fate.keep.length op.fate.cap, .int .i64 op.fate.tear] 45) = w5 at HK5 HB5 ⊢
    have y3 : w5.cell? ⟨w.heap.size, 3, none⟩ = some (.slice op.addr op.data.length op.cap) := HB5.out.cell 3
    go_wp2_with fail
    refine (clone_any op.addr op.cap op.data _ w5 (HO.out.data.still HK5.out) (by omega)).mono ?_
    rintro e w6 ⟨A6, c6, rfl, o6, k6⟩
    have O6 := Lib.hid (Own.mono o6 (G := fun k => w5.heap.size ≤ k ∧ k < w6.heap.size) (fun k a b => ⟨b, a⟩))
    have K6 := Lib.hid (HK5.out.trans k6)
    have B6 := Lib.hid (HB5.out.keep k6 (fun a => a))
    have x2 : w6.cell? ⟨w.heap.size, 2, none⟩ = some (.string op.name) := B6.out.cell 2
    have z5 := HB5.out.lt
    have z6 := k6.size
    clear o6 k6 HK5 HB5 y3
    go_wp2_with fail
    refine (appendAny F (fun k => w5.heap.size ≤ k ∧ k < w6.heap.size) p N s op.name A6 op.data c6 w6 (HH.out.d.keep K6.out (fun _ _ a => a)) HH.out.inv (by omega) (by have := Hbp.out; have := HS.out; omega) (OB.rb O6.out).2 (OB.nil_of O6.out) (fun k a b => by have h1 := hFl.out k a; omega) (by have := Hbp.out; have := HS.out; omega) (by unfold maxLen; omega)).mono ?_
    rw [HAe.out]
    rintro e w7 ⟨rfl, F7, d7, f7, k7⟩
    have D7 := Lib.hid d7
    have F7' := Lib.hid f7
    have L7 := Lib.hid d7.lt
    have K7 : Hid (Kept (B ≤ ·) w w7) := Lib.hid ((K6.out.mono (fun _ _ a => a.elim)).trans2 k7 (fun k _ b => HH.out.f k b))
    have O7 := Lib.hid (Own.keep O6.out k7 (fun k _ a b => by have h1 := hFl.out k b; omega))
    have B7 := Lib.hid (B6.out.keep k7 (fun a => by have h1 := hFl.out _ a; omega))
    have R7 := Lib.hid ((HH.out.r.keep K6.out (fun _ _ a => a)).keep k7 (fun k a b => HH.out.apart k b a))
    have z7 := k7.size
    clear d7 f7 k7 O6 B6 x2
    go_wp2
    go_loopw [83] (fun v wx => ∃ j : Nat, j ≤ op.data.length ∧ v = .int .i64 j ∧ Hid (OB wx (fun k => w5.heap.size ≤ k ∧ k < w6.heap.size) (.slice A6 op.data.length c6) (wiped 238 op.data j)) ∧ Hid (Kept (fun k => w5.heap.size ≤ k ∧ k < w6.heap.size) w7 wx)) (fun v _ => op.data.length - (intOf v).toNat)
    case atStart => exact ⟨0, Nat.zero_le _, rfl, O7, Lib.hid (Kept.refl _ _)⟩
    case round =>
      obtain ⟨j, hj, rfl, HOr, HKr⟩ := hrel
      have BR := Lib.hid (B7.out.keep HKr.out (fun a => by omega))
      have y2 : wr.cell? ⟨w.heap.size, 2, none⟩ = some (.string op.name) := BR.out.cell 2
      have y3 : wr.cell? ⟨w.heap.size, 3, none⟩ = some (.slice op.addr op.data.length op.cap) := BR.out.cell 3
      have HRB := Lib.hid ((HO.out.data.keep K7.out (fun k _ a b => absurd a (Nat.not_lt.2 b))).keep HKr.out (fun k _ a b => by omega))
      by_cases hlt : j < op.data.length
      · have hwl : j < (wiped 238 op.data j).length := by rw [wiped_length _ _ _ hj]; exact hlt
        obtain ⟨g, rfl, hgF, q0, qf, hset⟩ := OB.store HOr.out hwl 238
        obtain ⟨g', o', e', _, q1⟩ := HRB.out.at_ hlt
        rw [wiped_get _ _ _ hlt] at q0
        rw [wiped_set _ _ _ hlt] at hset
        have HSet := Lib.hid hset
        have HgF := Lib.hid hgF
        rw [e'] at y3
        have hji : (j : Int) < (op.data.length : Int) := by omega
        have hj0 : (0 : Int) ≤ (j : Int) := by omega
        generalize ((op.data[j]).toNat : Int) = x at q0 q1
        have hxx : (x != x) = false := by simp
        clear hset hgF
        go_upto_region 19 with (fail)
        go_quiet (fail)
        go_wp2
        go_roundw
        case rel => exact ⟨j + 1, by omega, by go_num, Lib.hid (HSet.out.drewN _), Lib.hid ((HKr.out.drewN _).setCell (p := ⟨g, j, none⟩) (fun _ => HgF.out) _)⟩
        case measure => simp [intOf]; omega
      · obtain rfl : j = op.data.length := by omega
        have hRr := R7.out.keep HKr.out (fun k a b => by have h1 := hGl.out k a; omega)
        go_wp2_with fail
        refine (refAppAny G (· < B) q s op.name op.addr op.data op.cap wr hRr HH.out.inv (by omega) (by have := Hbp.out; have := HS.out; omega) HRB.out (fun k a b => by have := HH.out.g k a; omega) (by have := Hbp.out; have := HS.out; omega) (by have := Hbp.out; have := HS.out; omega)).mono ?_
        rw [HAe.out]
        rintro e w8 ⟨rfl, G8, r8, g8, k8⟩
        have hzr := HKr.out.size
        have Hfin : Hid (StepPost w B p q (s.big + (op.bulk : Int)) N (.returned (.bool true)) w8) := Lib.hid (by
          have hD : DAt w8 F7 p (s.appOut op.name op.data) (N + 1) := (D7.out.keep HKr.out (fun k a b => by
            rcases F7'.out k a with c | c
            · have h1 := hFl.out k c; omega
            · omega)).keep k8 (fun k a b => by
            rcases F7'.out k a with c | c
            · exact HH.out.apart k c b
            · have h1 := hGl.out k b; omega)
          refine ⟨rfl, F7, G8, _, N + 1, ⟨hD, r8, HH.out.inv.appOut _ _, fun k a b => ?_, fun k a => ?_, fun k a => ?_, ?_⟩, ?_, Nat.le_refl _, ?_⟩
          · rcases F7'.out k a with c | c
            · rcases g8 k b with d | d
              · exact HH.out.apart k c d
              · have h1 := hFl.out k c; omega
            · have h1 := L7.out k a
              rcases g8 k b with d | d
              · have h2 := hGl.out k d; omega
              · omega
          · rcases F7'.out k a with c | c
            · exact HH.out.f k c
            · omega
          · rcases g8 k a with c | c
            · exact HH.out.g k c
            · omega
          · have := k8.size; omega
          · have := Hap.out
            omega
          · exact ((K7.out.trans2 HKr.out (fun k _ b => by omega)).trans2 k8 (fun k _ b => HH.out.g k b)))
        clear g8 r8 k8
        go_wp2
        rw [← HP.out]
        exact Hfin.out

end Go.Proofs.Ytnlmkfncdklcdaa
namespace Go.Proofs.Ytnlmkfncdklcdaa
open Go.RowKit

set_option maxRecDepth 100000 in
set_option maxHeartbeats 6400000 in
theorem step_sync (op : DOp) (w : World) (B p q : Nat) (F G : Nat → Prop) (s : DiskS) (N : Nat) (h : Both w B F G p q s N) (hs : s.big + (op.bulk : Int) ≤ 4194304) (hkk : bits .and .i64 op.kind 7 = 3) :
    Calls Try.prog 23 #[.pointer (some ⟨p, 0, none⟩), .pointer (some ⟨q, 0, none⟩), op.arg] w (StepPost w B p q (s.big + (op.bulk : Int)) N) := by
  unfold DOp.arg
  have HH := Lib.hid h
  have Hbp := Lib.hid (big_parts h.inv (Int.le_refl s.big))
  have Hap := Lib.hid (big_sync s)
  have hFl := Lib.hid h.d.lt
  have hGl := Lib.hid h.r.lt
  have hb0 := h.b
  have hln : Hid (∀ f ∈ s.files, f.data.length ≤ 140737488355328) := Lib.hid (fun f hf => by have h1 := h.inv.len_le hf; have h2 := Hbp.out; omega)
  have HK5 : Hid (Kept noneS w (w.alloc (.cells #[.int .i64 op.kind, .int .i64 op.n, .string op.name, .slice op.addr op.data.length op.cap, .slice op.fate.addr op.fate.keep.length op.fate.cap, .int .i64 op.fate.tear] 45))) := Lib.hid ((Kept.refl _ _).alloc _)
  clear h hs
  generalize hP : StepPost w B p q (s.big + (op.bulk : Int)) N = Post
  have HP := Lib.hid hP
  clear hP
  go_enter Try.func23, Try.ntmps23
  go_upto_region 24 with (fail)
  generalize w.alloc (.cells #[.int .i64 op.kind, .int .i64 op.n, .string op.name, .slice op.addr op.data.length op.cap, .slice op.fate.addr op.fate.keep.length op.fate.cap, .int .i64 op.fate.tear] 45) = w5 at HK5 ⊢
  have z5 := HK5.out.size
  go_wp2_with fail
  refine (diskSync F p N s w5 (HH.out.d.keep HK5.out (fun _ _ a => a)) HH.out.inv.asc HH.out.inv.there hln.out).mono ?_
  rintro e w7 ⟨rfl, F7, d7, f7, k7⟩
  rw [sync_doc HH.out.inv] at d7
  have D7 := Lib.hid d7
  have F7' := Lib.hid f7
  have L7 := Lib.hid d7.lt
  have K7 : Hid (Kept (B ≤ ·) w w7) := Lib.hid ((HK5.out.mono (fun _ _ a => a.elim)).trans2 k7 (fun k _ b => HH.out.f k b))
  have R7 := Lib.hid ((HH.out.r.keep HK5.out (fun _ _ a => a)).keep k7 (fun k a b => HH.out.apart k b a))
  have z7 := k7.size
  clear d7 f7 k7
  go_wp2_with fail
  refine (refSync G q s w7 R7.out).mono ?_
  rintro e w8 ⟨rfl, G8, r8, g8, k8⟩
  have Hfin : Hid (StepPost w B p q (s.big + (op.bulk : Int)) N (.returned (.bool true)) w8) := Lib.hid (by
    have hD : DAt w8 F7 p s.sync2 N := D7.out.keep k8 (fun k a b => by
      rcases F7'.out k a with c | c
      · exact HH.out.apart k c b
      · have h1 := hGl.out k b; omega)
    refine ⟨rfl, F7, G8, _, N, ⟨hD, r8, HH.out.inv.sync, fun k a b => ?_, fun k a => ?_, fun k a => ?_, ?_⟩, ?_, Nat.le_succ _, ?_⟩
    · rcases F7'.out k a with c | c
      · rcases g8 k b with d | d
        · exact HH.out.apart k c d
        · have h1 := hFl.out k c; omega
      · have h1 := L7.out k a
        rcases g8 k b with d | d
        · have h2 := hGl.out k d; omega
        · omega
    · rcases F7'.out k a with c | c
      · exact HH.out.f k c
      · omega
    · rcases g8 k a with c | c
      · exact HH.out.g k c
      · omega
    · have := k8.size; omega
    · have := Hap.out
      omega
    · exact K7.out.trans2 k8 (fun k _ b => HH.out.g k b))
  clear g8 r8 k8
  go_wp2
  rw [← HP.out]
  exact Hfin.out

set_option maxRecDepth 100000 in
set_option maxHeartbeats 6400000 in
theorem step_cut (op : DOp) (w : World) (B p q : Nat) (F G : Nat → Prop) (s : DiskS) (N : Nat) (h : Both w B F G p q s N) (hs : s.big + (op.bulk : Int) ≤ 4194304) (hkk : bits .and .i64 op.kind 7 = 4) :
    Calls Try.prog 23 #[.pointer (some ⟨p, 0, none⟩), .pointer (some ⟨q, 0, none⟩), op.arg] w (StepPost w B p q (s.big + (op.bulk : Int)) N) := by
  unfold DOp.arg
  have HH := Lib.hid h
  have HS := Lib.hid hs
  have hby : op.name.size + op.data.length + 4 ≤ op.bulk := by unfold DOp.bulk; omega
  have Hbp := Lib.hid (big_parts h.inv (Int.le_refl s.big))
  have Hap := Lib.hid (big_cut s op.name.toList op.n)
  have hFl := Lib.hid h.d.lt
  have hGl := Lib.hid h.r.lt
  have hb0 := h.b
  have hbg : 0 ≤ s.big := by
    have h1 := h.inv.used
    unfold DiskS.big
    omega
  have hdl : op.name.size ≤ 4194304 := by omega
  have HK5 : Hid (Kept noneS w (w.alloc (.cells #[.int .i64 op.kind, .int .i64 op.n, .string op.name, .slice op.addr op.data.length op.cap, .slice op.fate.addr op.fate.keep.length op.fate.cap, .int .i64 op.fate.tear] 45))) := Lib.hid ((Kept.refl _ _).alloc _)
  have HB5 := Lib.hid (Blk.new w 45 #[.int .i64 op.kind, .int .i64 op.n, .string op.name, .slice op.addr op.data.length op.cap, .slice op.fate.addr op.fate.keep.length op.fate.cap, .int .i64 op.fate.tear])
  obtain ⟨ae, hae⟩ : ∃ ae, s.cutErr op.name.toList op.n = ae := ⟨_, rfl⟩
  have HAe := Lib.hid hae
  have hee : (ae == ae) = true := by simp
  clear hae h hs
  generalize hP : StepPost w B p q (s.big + (op.bulk : Int)) N = Post
  have HP := Lib.hid hP
  clear hP
  go_enter Try.func23, Try.ntmps23
  go_upto_region 28 with (fail)
  generalize w.alloc (.cells #[.int .i64 op.kind, .int .i64 op.n, .string op.name, .slice op.addr op.data.length op.cap, .slice op.fate.addr op.fate.keep.length op.fate.cap, .int .i64 op.fate.tear] 45) = w5 at HK5 HB5 ⊢
  have z5 := HB5.out.lt
  have y1 : w5.cell? ⟨w.heap.size, 1, none⟩ = some (.int .i64 op.n) := HB5.out.cell 1
  have y2 : w5.cell? ⟨w.heap.size, 2, none⟩ = some (.string op.name) := HB5.out.cell 2
  go_region_held3 (fun W => W.cell? ⟨w.heap.size, 1, none⟩ = some (.int .i64 op.n) ∧ W.cell? ⟨w.heap.size, 2, none⟩ = some (.string op.name))
    (first | exact ⟨y1, y2⟩ | exact ⟨s1, s2⟩ | exact ⟨t1, t2⟩ | go_keep)
    (first
      | (go_at_call 26; refine (cutAny F p N s op.name op.n w5.drew (HH.out.d.keep (HK5.out.drew) (fun _ _ a => a)) HH.out.inv (by omega) (by have := Hbp.out; have := HS.out; omega)).mono ?_; rw [HAe.out]; rintro e w7 ⟨rfl, F7, d7, f7, k7⟩; have kA : Kept F w5 w7 := ((Kept.refl F w5).drew).trans k7; have s1 := (kA.cell (lt_of_cell y1) (fun a => Nat.lt_irrefl _ (hFl.out _ a))).trans y1; have s2 := (kA.cell (lt_of_cell y2) (fun a => Nat.lt_irrefl _ (hFl.out _ a))).trans y2; have D7 := Lib.hid d7; have F7' := Lib.hid f7; have K7 := Lib.hid kA; clear d7 f7 k7 kA)
      | (go_at_call 33; refine (refCutAny G q s op.name op.n w7 ((HH.out.r.keep HK5.out (fun _ _ a => a)).keep K7.out (fun k a b => HH.out.apart k b a)) HH.out.inv (by have := Hbp.out; have := HS.out; omega) (by have := Hbp.out; have := HS.out; omega)).mono ?_; rw [HAe.out]; rintro e w8 ⟨rfl, G8, r8, g8, k8⟩; have t1 := (k8.cell (lt_of_cell s1) (fun a => Nat.lt_irrefl _ (hGl.out _ a))).trans s1; have t2 := (k8.cell (lt_of_cell s2) (fun a => Nat.lt_irrefl _ (hGl.out _ a))).trans s2; have R8 := Lib.hid r8; have G8' := Lib.hid g8; have K8 := Lib.hid k8; clear r8 g8 k8))
  all_goals
    have Hfin : Hid (StepPost w B p q (s.big + (op.bulk : Int)) N (.returned (.bool true)) w8) := Lib.hid (by
      have z7 := K7.out.size
      have hD : DAt w8 F7 p (s.cutOut op.name.toList op.n) N := D7.out.keep K8.out (fun k a b => by
        rcases F7'.out k a with c | c
        · exact HH.out.apart k c b
        · have h1 := hGl.out k b
          have h2 : w5.drew.heap.size = w5.heap.size := rfl
          omega)
      have hL7 := D7.out.lt
      have h5 : w5.drew.heap.size = w5.heap.size := rfl
      refine ⟨rfl, F7, G8, _, N, ⟨hD, R8.out, HH.out.inv.cutOut _ _, fun k a b => ?_, fun k a => ?_, fun k a => ?_, ?_⟩, ?_, Nat.le_succ _, ?_⟩
      · rcases F7'.out k a with c | c
        · rcases G8'.out k b with d | d
          · exact HH.out.apart k c d
          · have h1 := hFl.out k c; omega
        · have h1 := hL7 k a
          rcases G8'.out k b with d | d
          · have h2 := hGl.out k d; omega
          · omega
      · rcases F7'.out k a with c | c
        · exact HH.out.f k c
        · omega
      · rcases G8'.out k a with c | c
        · exact HH.out.g k c
        · omega
      · have := K8.out.size; omega
      · have := Hap.out
        omega
      · exact ((HK5.out.mono (S' := (B ≤ ·)) (fun _ _ a => a.elim)).trans2 K7.out (fun k _ b => HH.out.f k b)).trans2 K8.out (fun k _ b => HH.out.g k b))
    go_wp2
    rw [← HP.out]
    exact Hfin.out

set_option maxRecDepth 100000 in
set_option maxHeartbeats 6400000 in
theorem step_rem (op : DOp) (w : World) (B p q : Nat) (F G : Nat → Prop) (s : DiskS) (N : Nat) (h : Both w B F G p q s N) (hs : s.big + (op.bulk : Int) ≤ 4194304) (hkk : bits .and .i64 op.kind 7 = 5) :
    Calls Try.prog 23 #[.pointer (some ⟨p, 0, none⟩), .pointer (some ⟨q, 0, none⟩), op.arg] w (StepPost w B p q (s.big + (op.bulk : Int)) N) := by
  unfold DOp.arg
  have HH := Lib.hid h
  have HS := Lib.hid hs
  have hby : op.name.size + op.data.length + 4 ≤ op.bulk := by unfold DOp.bulk; omega
  have Hbp := Lib.hid (big_parts h.inv (Int.le_refl s.big))
  have Hap := Lib.hid (big_rem s op.name.toList)
  have hFl := Lib.hid h.d.lt
  have hGl := Lib.hid h.r.lt
  have hb0 := h.b
  have hbg : 0 ≤ s.big := by
    have h1 := h.inv.used
    unfold DiskS.big
    omega
  have hdl : op.name.size ≤ 4194304 := by omega
  have HK5 : Hid (Kept noneS w (w.alloc (.cells #[.int .i64 op.kind, .int .i64 op.n, .string op.name, .slice op.addr op.data.length op.cap, .slice op.fate.addr op.fate.keep.length op.fate.cap, .int .i64 op.fate.tear] 45))) := Lib.hid ((Kept.refl _ _).alloc _)
  have HB5 := Lib.hid (Blk.new w 45 #[.int .i64 op.kind, .int .i64 op.n, .string op.name, .slice op.addr op.data.length op.cap, .slice op.fate.addr op.fate.keep.length op.fate.cap, .int .i64 op.fate.tear])
  obtain ⟨ae, hae⟩ : ∃ ae, s.remErr op.name.toList = ae := ⟨_, rfl⟩
  have HAe := Lib.hid hae
  have hee : (ae == ae) = true := by simp
  clear hae h hs
  generalize hP : StepPost w B p q (s.big + (op.bulk : Int)) N = Post
  have HP := Lib.hid hP
  clear hP
  go_enter Try.func23, Try.ntmps23
  go_upto_region 30 with (fail)
  generalize w.alloc (.cells #[.int .i64 op.kind, .int .i64 op.n, .string op.name, .slice op.addr op.data.length op.cap, .slice op.fate.addr op.fate.keep.length op.fate.cap, .int .i64 op.fate.tear] 45) = w5 at HK5 HB5 ⊢
  have z5 := HB5.out.lt
  have y2 : w5.cell? ⟨w.heap.size, 2, none⟩ = some (.string op.name) := HB5.out.cell 2
  go_region_held3 (fun W => W.cell? ⟨w.heap.size, 2, none⟩ = some (.string op.name))
    (first | exact y2 | exact s2 | exact t2 | go_keep)
    (first
      | (go_at_call 27; refine (remAny F p N s op.name w5.drew (HH.out.d.keep (HK5.out.drew) (fun _ _ a => a)) HH.out.inv (by omega) (by have := Hbp.out; have := HS.out; omega)).mono ?_; rw [HAe.out]; rintro e w7 ⟨rfl, d7, k7⟩; have kA : Kept F w5 w7 := ((Kept.refl F w5).drew).trans k7; have s2 := (kA.cell (lt_of_cell y2) (fun a => Nat.lt_irrefl _ (hFl.out _ a))).trans y2; have D7 := Lib.hid d7; have K7 := Lib.hid kA; clear d7 k7 kA)
      | (go_at_call 34; refine (refRemAny G q s op.name w7 ((HH.out.r.keep HK5.out (fun _ _ a => a)).keep K7.out (fun k a b => HH.out.apart k b a)) HH.out.inv (by have := Hbp.out; have := HS.out; omega) (by have := Hbp.out; have := HS.out; omega)).mono ?_; rw [HAe.out]; rintro e w8 ⟨rfl, G8, r8, g8, k8⟩; have t2 := (k8.cell (lt_of_cell s2) (fun a => Nat.lt_irrefl _ (hGl.out _ a))).trans s2; have R8 := Lib.hid r8; have G8' := Lib.hid g8; have K8 := Lib.hid k8; clear r8 g8 k8))
  all_goals
    have Hfin : Hid (StepPost w B p q (s.big + (op.bulk : Int)) N (.returned (.bool true)) w8) := Lib.hid (by
      have z7 := K7.out.size
      have hD : DAt w8 F p (s.remOut op.name.toList) N := D7.out.keep K8.out (fun k a b => HH.out.apart k a b)
      refine ⟨rfl, F, G8, _, N, ⟨hD, R8.out, HH.out.inv.remOut _, fun k a b => ?_, fun k a => HH.out.f k a, fun k a => ?_, ?_⟩, ?_, Nat.le_succ _, ?_⟩
      · rcases G8'.out k b with d | d
        · exact HH.out.apart k a d
        · have h1 := hFl.out k a; omega
      · rcases G8'.out k a with c | c
        · exact HH.out.g k c
        · omega
      · have := K8.out.size; omega
      · have := Hap.out
        omega
      · exact ((HK5.out.mono (S' := (B ≤ ·)) (fun _ _ a => a.elim)).trans2 K7.out (fun k _ b => HH.out.f k b)).trans2 K8.out (fun k _ b => HH.out.g k b))
    go_wp2
    rw [← HP.out]
    exact Hfin.out

end Go.Proofs.Ytnlmkfncdklcdaa
namespace Go.Proofs.Ytnlmkfncdklcdaa
open Go.RowKit

theorem sumP_le {M : Nat} : ∀ l : List WrS, (∀ x ∈ l, x.data.length ≤ M) → sumP l ≤ l.length * M
  | [], _ => by simp [sumP]
  | y :: l, h => by
    have h1 := sumP_le l (fun x hx => h x (List.mem_cons_of_mem _ hx))
    have h2 := h y List.mem_cons_self
    have e : sumP (y :: l) = y.data.length + sumP l := by unfold sumP; rw [List.map_cons, List.sum_cons]
    rw [e, List.length_cons, Nat.succ_mul]
    omega
/-- What the document's Crash asks of a disk that is not great. -/
theorem ref_small {s : DiskS} (h : DInv s) (hb : s.big ≤ 4194304) : s.files.length * 40 ≤ 140737488355328 ∧ s.pend.length * 32 ≤ 140737488355328 ∧ ∀ f ∈ s.files, f.safe.length ≤ f.data.length ∧ f.data.length + sumP s.pend ≤ 140737488351232 ∧ ∀ x ∈ s.pend, x.key = f.key → x.off + x.data.length ≤ f.data.length := by
  obtain ⟨h1, h2, h3, h4⟩ := big_parts h hb
  have hs : sumP s.pend ≤ s.pend.length * 4194304 := sumP_le s.pend (fun x hx => by have := h.pend_le hx; omega)
  refine ⟨by omega, by omega, fun f hf => ⟨h.safe_le hf, ?_, fun x hx e => tile_in e s.pend _ (h.tile f hf) hx⟩⟩
  have := h.len_le hf
  omega

set_option maxRecDepth 100000 in
set_option maxHeartbeats 6400000 in
theorem step_crash (op : DOp) (w : World) (B p q : Nat) (F G : Nat → Prop) (s : DiskS) (N : Nat) (h : Both w B F G p q s N) (ho : OpAt w B op) (hs : s.big + (op.bulk : Int) ≤ 4194304) (hkk : bits .and .i64 op.kind 7 = 6) :
    Calls Try.prog 23 #[.pointer (some ⟨p, 0, none⟩), .pointer (some ⟨q, 0, none⟩), op.arg] w (StepPost w B p q (s.big + (op.bulk : Int)) N) := by
  unfold DOp.arg
  have HH := Lib.hid h
  have HO := Lib.hid ho
  have hFl := Lib.hid h.d.lt
  have hGl := Lib.hid h.r.lt
  have hb0 := h.b
  have Cs := Lib.hid (crash_small h.inv (M := 4194304) (by omega) (by decide))
  have Rs := Lib.hid (ref_small h.inv (by omega))
  have Hbp := Lib.hid (big_parts h.inv (M := 4194304) (by omega))
  have HK5 : Hid (Kept noneS w (w.alloc (.cells #[.int .i64 op.kind, .int .i64 op.n, .string op.name, .slice op.addr op.data.length op.cap, .slice op.fate.addr op.fate.keep.length op.fate.cap, .int .i64 op.fate.tear] 45))) := Lib.hid ((Kept.refl _ _).alloc _)
  have HB5 := Lib.hid (Blk.new w 45 #[.int .i64 op.kind, .int .i64 op.n, .string op.name, .slice op.addr op.data.length op.cap, .slice op.fate.addr op.fate.keep.length op.fate.cap, .int .i64 op.fate.tear])
  have hle : (s.left op.fate.keep op.fate.tear).length = s.files.length := by rw [left_one h.inv, List.length_map]
  have hld := left_doc h.inv op.fate.keep op.fate.tear
  obtain ⟨fs, hfs⟩ : ∃ fs, s.left op.fate.keep op.fate.tear = fs := ⟨_, rfl⟩
  rw [hfs] at hle hld
  have HFs := Lib.hid hfs
  have HLd := Lib.hid hld
  have hln : fs.length ≤ 4194304 := by have := Hbp.out; omega
  clear h ho hs hfs hld hle
  generalize hP : StepPost w B p q (s.big + (op.bulk : Int)) N = Post
  have HP := Lib.hid hP
  clear hP
  go_enter Try.func23, Try.ntmps23
  go_upto_region 32 with (fail)
  generalize w.alloc (.cells #[.int .i64 op.kind, .int .i64 op.n, .string op.name, .slice op.addr op.data.length op.cap, .slice op.fate.addr op.fate.keep.length op.fate.cap, .int .i64 op.fate.tear] 45) = w5 at HK5 HB5 ⊢
  have z5 := HB5.out.lt
  have y4 : w5.cell? ⟨w.heap.size, 4, none⟩ = some (.slice op.fate.addr op.fate.keep.length op.fate.cap) := HB5.out.cell 4
  have y5 : w5.cell? ⟨w.heap.size, 5, none⟩ = some (.int .i64 op.fate.tear) := HB5.out.cell 5
  go_wp2_with fail
  refine (diskCrash F (· < B) p N s w5 op.fate.addr op.fate.cap op.fate.keep op.fate.tear (HH.out.d.keep HK5.out (fun _ _ a => a)) HH.out.inv.asc (HO.out.keep.keep HK5.out (fun _ _ _ a => a)) HO.out.tear Cs.out.1 Cs.out.2.1 Cs.out.2.2.1 Cs.out.2.2.2).mono ?_
  rw [HFs.out]
  rintro e w6 ⟨A6, c6, rfl, o6, k6⟩
  have O6 := Lib.hid (o6.mono (G := fun k => w5.heap.size ≤ k ∧ k < w6.heap.size) (fun k a b => ⟨b, a⟩))
  have K6 := Lib.hid (HK5.out.trans k6)
  have x4 : w6.cell? ⟨w.heap.size, 4, none⟩ = some (.slice op.fate.addr op.fate.keep.length op.fate.cap) := (HB5.out.keep k6 (fun a => a)).cell 4
  have x5 : w6.cell? ⟨w.heap.size, 5, none⟩ = some (.int .i64 op.fate.tear) := (HB5.out.keep k6 (fun a => a)).cell 5
  have z6 := k6.size
  clear o6 k6 HK5 HB5 y4 y5
  go_wp2_with fail
  refine (refCrash G (· < B) q s w6 op.fate.addr op.fate.cap op.fate.keep op.fate.tear (HH.out.r.keep K6.out (fun _ _ a => a)) (HO.out.keep.keep K6.out (fun _ _ _ a => a)) HO.out.tear Rs.out.1 Rs.out.2.1 Rs.out.2.2).mono ?_
  rw [← HLd.out]
  rintro e w7 ⟨A7, c7, rfl, o7, k7⟩
  have O7 := Lib.hid o7.fls
  have O6' := Lib.hid (O6.out.still k7)
  have K7 := Lib.hid (K6.out.trans k7)
  clear o7 k7 O6 K6 x4 x5
  go_wp2_with fail
  refine (sameFiles A6 A7 c6 c7 _ _ fs fs _ _ w7 O6'.out.fls O7.out rfl rfl (by omega) (by omega)).mono ?_
  rintro e w8 ⟨rfl, k8⟩
  rw [(sameB_iff fs fs).2 rfl]
  have K8 := Lib.hid (K7.out.trans k8)
  obtain ⟨css, hcl, hwip⟩ := (O6'.out.still k8).wip
  have HW := Lib.hid hwip
  have HCl := Lib.hid hcl
  clear hwip hcl k8 O7 O6' K7 HFs HLd
  generalize fs.length = n at *
  go_wp2
  go_loopw [155] (fun v wr => ∃ j : Nat, j ≤ n ∧ v = .int .i64 j ∧ Hid (FlsWip wr (fun k => w5.heap.size ≤ k ∧ k < w6.heap.size) (.slice A6 n c6) css) ∧ Hid (Kept (fun k => w5.heap.size ≤ k ∧ k < w6.heap.size) w8 wr)) (fun v _ => n - (intOf v).toNat)
  case atStart => exact ⟨0, Nat.zero_le _, rfl, HW, Lib.hid (Kept.refl _ _)⟩
  case round =>
    obtain ⟨j, hj, rfl, HWr, HKr⟩ := hrel
    by_cases hlt : j < n
    · have hjc : j < css.length := by rw [HCl.out]; exact hlt
      obtain ⟨x, C, m, d, hc, _, _⟩ := HWr.out.el j hjc
      have HC := Lib.hid hc
      clear hc
      obtain ⟨g, o, rfl, hm, _, y1⟩ := HWr.out.at_ hjc HC.out
      have hji : (j : Int) < (n : Int) := by omega
      have hj0 : (0 : Int) ≤ (j : Int) := by omega
      go_wp2
      go_loopw [164] (fun v wx => ∃ k : Nat, k ≤ m ∧ v = .int .i64 k ∧ Hid (FlsWip wx (fun k => w5.heap.size ≤ k ∧ k < w6.heap.size) (.slice (some ⟨g, o, none⟩) n c6) css) ∧ Hid (Kept (fun k => w5.heap.size ≤ k ∧ k < w6.heap.size) w8 wx)) (fun v _ => m - (intOf v).toNat)
      case atStart => exact ⟨0, Nat.zero_le _, rfl, HWr, HKr⟩
      case round =>
        obtain ⟨k, hk, rfl, HWx, HKx⟩ := hrel
        clear y1
        obtain ⟨g', o', e', _, hw, y2⟩ := HWx.out.at_ hjc HC.out
        injection e' with e'
        injection e' with e1 e2
        subst e1 e2
        by_cases hlt2 : k < m
        · obtain ⟨gB, cur, u, rfl, hFB, hbB, z0, zf⟩ := hw.at_ hlt2
          have hki : (k : Int) < (m : Int) := by omega
          have hk0 : (0 : Int) ≤ (k : Int) := by omega
          have HB := Lib.hid hbB
          have HFB := Lib.hid hFB
          clear hbB hFB hw
          go_wp2
          go_roundw
          case rel => exact ⟨k + 1, by omega, by go_num, Lib.hid (HWx.out.set HB.out k _), Lib.hid (HKx.out.setCell (p := ⟨gB, k, none⟩) (fun _ => HFB.out) _)⟩
          case measure => simp [intOf]; omega
        · obtain rfl : k = m := by omega
          clear hw
          go_wp2
          go_roundw
          case rel => exact ⟨j + 1, by omega, by go_num, HWx, HKx⟩
          case measure => simp [intOf]; omega
    · obtain rfl : j = n := by omega
      have Hfin : Hid (StepPost w B p q (s.big + (op.bulk : Int)) N (.returned (.bool true)) wr) := Lib.hid (by
        have z8 := K8.out.size
        have zr := HKr.out.size
        refine ⟨rfl, F, G, s, N, ⟨(HH.out.d.keep K8.out (fun _ _ a => a)).keep HKr.out (fun k a b => ?_), (HH.out.r.keep K8.out (fun _ _ a => a)).keep HKr.out (fun k a b => ?_), HH.out.inv, HH.out.apart, HH.out.f, HH.out.g, ?_⟩, ?_, Nat.le_succ _, ?_⟩
        · have h1 := hFl.out k a; omega
        · have h1 := hGl.out k a; omega
        · omega
        · omega
        · exact (K8.out.mono (S' := (B ≤ ·)) (fun _ _ a => a.elim)).trans2 HKr.out (fun k _ b => by omega))
      go_wp2
      rw [← HP.out]
      exact Hfin.out

end Go.Proofs.Ytnlmkfncdklcdaa
namespace Go.Proofs.Ytnlmkfncdklcdaa
open Go.RowKit

theorem find_at_place {p : FileS → Bool} {f : FileS} : ∀ l : List FileS, l.find? p = some f → ∃ h : l.findIdx p < l.length, l[l.findIdx p] = f
  | [], h => by cases h
  | g :: l, h => by
    rw [List.find?_cons] at h
    rcases e : p g with _ | _
    · rw [e] at h
      obtain ⟨h1, h2⟩ := find_at_place l h
      have q : (g :: l).findIdx p = l.findIdx p + 1 := by rw [List.findIdx_cons, e]; rfl
      refine ⟨by rw [q, List.length_cons]; omega, ?_⟩
      simp only [q, List.getElem_cons_succ]
      exact h2
    · rw [e] at h
      have q : (g :: l).findIdx p = 0 := by rw [List.findIdx_cons, e]; rfl
      refine ⟨by rw [q, List.length_cons]; omega, ?_⟩
      simp only [q, List.getElem_cons_zero]
      exact Option.some.inj h
theorem find_none {s : DiskS} {nm : List UInt8} (h : s.get nm = none) : findI nm s.files = -1 := by
  unfold findI placeOf
  have : s.files.findIdx (fun f => f.key == nm) = s.files.length := List.findIdx_eq_length.2 (fun x hx => by
    have := List.find?_eq_none.1 (show s.files.find? _ = none from h) x hx
    simpa using this)
  rw [this, if_neg (Nat.lt_irrefl _)]
/-- A file of the document's disk is where Find says. -/
theorem RAt.found {w : World} {G : Nat → Prop} {q : Nat} {s : DiskS} (h : RAt w G q s) {nm : List UInt8} {f : FileS} (hf : s.get nm = some f) :
    ∃ (k g n c : Nat) (A1 : Option Addr) (c1 : Nat), findI nm s.files = (k : Int) ∧ k < n ∧ w.cell? ⟨q, 0, none⟩ = some (.slice (some ⟨g, 0, none⟩) n c) ∧ w.cell? ⟨g, k * 3 + 1, none⟩ = some (.slice A1 f.data.length c1) ∧ RB w G A1 f.data ∧ n ≤ maxLen := by
  obtain ⟨tag, fv, pv, l, hG, ho⟩ := h
  obtain ⟨Af, cf, rfl, hc, hm, _⟩ := Own.form ho.frow
  obtain ⟨h1, h2⟩ := find_at_place s.files hf
  have hll : l.length = s.files.length := by rw [← ho.fls, List.length_map]
  have h1' : s.files.findIdx (fun f => f.key == nm) < l.length := by omega
  obtain ⟨g, rfl, _, _, q1, _⟩ := Own.at3 ho.frow h1'
  have e : (l[s.files.findIdx (fun f => f.key == nm)]).1 = f := by
    have h3 : (l.map (·.1))[s.files.findIdx (fun f => f.key == nm)]'(by simpa using h1') = f := by
      simp only [ho.fls]
      exact h2
    simpa using h3
  obtain ⟨A1, c1, e1, _⟩ := Own.form (ho.fat _ (List.getElem_mem h1')).2
  have hb := (OB.rb (show OB w (fun k => tag k = .fd (l[s.files.findIdx (fun f => f.key == nm)]).1.key) (.slice A1 (l[s.files.findIdx (fun f => f.key == nm)]).1.data.length c1) _ from e1 ▸ (ho.fat _ (List.getElem_mem h1')).2)).2
  have q1' : w.cell? ⟨g, (s.files.findIdx (fun f => f.key == nm)) * 3 + 1, none⟩ = some (.slice A1 (l[s.files.findIdx (fun f => f.key == nm)]).1.data.length c1) := q1.trans (congrArg some e1)
  rw [e] at q1' hb
  refine ⟨s.files.findIdx (fun f => f.key == nm), g, l.length, cf, A1, c1, ?_, h1', ho.blk.cell 0, q1', hb.mono (fun k _ a => (hG k).2 (by rw [a]; simp)), by omega⟩
  unfold findI placeOf
  rw [if_pos h1]

set_option maxRecDepth 100000 in
set_option maxHeartbeats 6400000 in
theorem step_read (op : DOp) (w : World) (B p q : Nat) (F G : Nat → Prop) (s : DiskS) (N : Nat) (h : Both w B F G p q s N) (hs : s.big + (op.bulk : Int) ≤ 4194304) (hkk : bits .and .i64 op.kind 7 = 7) :
    Calls Try.prog 23 #[.pointer (some ⟨p, 0, none⟩), .pointer (some ⟨q, 0, none⟩), op.arg] w (StepPost w B p q (s.big + (op.bulk : Int)) N) := by
  unfold DOp.arg
  have HH := Lib.hid h
  have hby : op.name.size + op.data.length + 4 ≤ op.bulk := by unfold DOp.bulk; omega
  have hFl := Lib.hid h.d.lt
  have hGl := Lib.hid h.r.lt
  have hb0 := h.b
  have hbg : 0 ≤ s.big := by
    have h1 := h.inv.used
    unfold DiskS.big
    omega
  have hdl : op.name.size ≤ 4194304 := by omega
  have Hbp := Lib.hid (big_parts h.inv (M := 4194304) (by omega))
  have hln : Hid (∀ f ∈ s.files, f.data.length ≤ 140737488355328) := Lib.hid (fun f hf => by have h1 := h.inv.len_le hf; have h2 := Hbp.out; omega)
  have HK5 : Hid (Kept noneS w (w.alloc (.cells #[.int .i64 op.kind, .int .i64 op.n, .string op.name, .slice op.addr op.data.length op.cap, .slice op.fate.addr op.fate.keep.length op.fate.cap, .int .i64 op.fate.tear] 45))) := Lib.hid ((Kept.refl _ _).alloc _)
  have HB5 := Lib.hid (Blk.new w 45 #[.int .i64 op.kind, .int .i64 op.n, .string op.name, .slice op.addr op.data.length op.cap, .slice op.fate.addr op.fate.keep.length op.fate.cap, .int .i64 op.fate.tear])
  have HSb : Hid (s.big ≤ s.big + (op.bulk : Int)) := Lib.hid (by omega)
  have Hfin : Hid (∀ w' : World, ∀ S : Nat → Prop, Kept S w w' → (∀ k, k < w.heap.size → S k → False) → StepPost w B p q (s.big + (op.bulk : Int)) N (.returned (.bool true)) w') := Lib.hid (fun w' S hk hd => by
    refine ⟨rfl, F, G, s, N, ⟨HH.out.d.keep hk (fun k a b => hd k (hFl.out k a) b), HH.out.r.keep hk (fun k a b => hd k (hGl.out k a) b), HH.out.inv, HH.out.apart, HH.out.f, HH.out.g, Nat.le_trans hb0 hk.size⟩, HSb.out, Nat.le_succ _, hk.mono (fun k a b => (hd k a b).elim)⟩)
  clear h hs
  generalize hP : StepPost w B p q (s.big + (op.bulk : Int)) N = Post at Hfin
  clear hP
  go_enter Try.func23, Try.ntmps23
  go_upto_region 2 with (fail)
  generalize w.alloc (.cells #[.int .i64 op.kind, .int .i64 op.n, .string op.name, .slice op.addr op.data.length op.cap, .slice op.fate.addr op.fate.keep.length op.fate.cap, .int .i64 op.fate.tear] 45) = w5 at HK5 HB5 ⊢
  have z5 := HB5.out.lt
  have y2 : w5.cell? ⟨w.heap.size, 2, none⟩ = some (.string op.name) := HB5.out.cell 2
  go_wp2_with fail
  refine (diskRead F p N s op.name w5 (HH.out.d.keep HK5.out (fun _ _ a => a)) (by omega) hln.out).mono ?_
  rcases hg : s.get op.name.toList with _ | f
  · simp only [ReadPost]
    rintro e w6 ⟨rfl, rfl⟩
    go_wp2_with fail
    refine (refFind G q s op.name w6 (HH.out.r.keep HK5.out (fun _ _ a => a))).mono ?_
    rw [find_none hg]
    rintro e w7 ⟨rfl, rfl⟩
    go_wp2
    go_loopw [62] (fun v wx => v = .int .i64 0 ∧ w6 = wx) (fun _ _ => 0)
    case atStart => exact ⟨rfl, rfl⟩
    case round =>
      obtain ⟨rfl, rfl⟩ := hrel
      go_wp2
      exact Hfin.out _ noneS HK5.out (fun _ _ a => a)
  · have HGt := Lib.hid hg
    have hfl := hln.out f (DiskS.get_mem hg).1
    clear hg
    simp only [ReadPost]
    rintro e w6 ⟨A6, c6, rfl, o6, k6⟩
    have O6 := Lib.hid (Own.mono o6 (G := fun k => w5.heap.size ≤ k ∧ k < w6.heap.size) (fun k a b => ⟨b, a⟩))
    have K6 := Lib.hid (HK5.out.trans k6)
    have x2 : w6.cell? ⟨w.heap.size, 2, none⟩ = some (.string op.name) := (HB5.out.keep k6 (fun a => a)).cell 2
    have hR := HH.out.r.keep K6.out (fun _ _ a => a)
    obtain ⟨k, g, n, cf, A1, c1, hfi, hkn, c0, c1', hrb, hnm⟩ := hR.found HGt.out
    have HR := Lib.hid hR
    have HRB := Lib.hid hrb
    have hki : (k : Int) < (n : Int) := by omega
    have hk0 : (0 : Int) ≤ (k : Int) := by omega
    have hkd : decide ((0 : Int) ≤ (k : Int)) = true := decide_eq_true hk0
    clear o6 k6 hR hrb HK5 HB5 y2
    go_wp2_with fail
    refine (refFind G q s op.name w6 HR.out).mono ?_
    rw [hfi]
    rintro e w7 ⟨rfl, rfl⟩
    go_wp2_with fail
    refine (same_any A6 A1 c6 c1 _ _ f.data f.data _ _ w6 (OB.rb O6.out).2 HRB.out rfl rfl).mono ?_
    rw [show (f.data == f.data) = true by simp]
    rintro e w7 ⟨rfl, rfl⟩
    go_wp2
    go_loopw [62] (fun v wx => ∃ j : Nat, j ≤ f.data.length ∧ v = .int .i64 j ∧ Hid (∃ bs : List UInt8, bs.length = f.data.length ∧ OB wx (fun k => w5.heap.size ≤ k ∧ k < w6.heap.size) (.slice A6 f.data.length c6) bs) ∧ Hid (Kept (fun k => w5.heap.size ≤ k ∧ k < w6.heap.size) w6 wx)) (fun v _ => f.data.length - (intOf v).toNat)
    case atStart => exact ⟨0, Nat.zero_le _, rfl, Lib.hid ⟨_, rfl, O6.out⟩, Lib.hid (Kept.refl _ _)⟩
    case round =>
      obtain ⟨j, hj, rfl, HOr, HKr⟩ := hrel
      by_cases hlt : j < f.data.length
      · obtain ⟨bs, hbl, hob⟩ := HOr.out
        obtain ⟨g2, rfl, hgF, q0, qf, hset⟩ := OB.store hob (j := j) (by omega) 204
        have HSet : Hid (∃ bs : List UInt8, bs.length = f.data.length ∧ OB (wr.setCell ⟨g2, j, none⟩ (.int .u8 ((204 : UInt8).toNat : Int))) (fun k => w5.heap.size ≤ k ∧ k < w6.heap.size) (.slice (some ⟨g2, 0, none⟩) f.data.length c6) bs) := Lib.hid ⟨_, by rw [List.length_set]; exact hbl, hset⟩
        have HgF := Lib.hid hgF
        have hji : (j : Int) < (f.data.length : Int) := by omega
        have hj0 : (0 : Int) ≤ (j : Int) := by omega
        generalize ((bs[j]'(by omega)).toNat : Int) = x at q0
        clear hset hgF hob hbl
        go_wp2
        go_roundw
        case rel => exact ⟨j + 1, by omega, by go_num, HSet, Lib.hid (HKr.out.setCell (p := ⟨g2, j, none⟩) (fun _ => HgF.out) _)⟩
        case measure => simp [intOf]; omega
      · obtain rfl : j = f.data.length := by omega
        go_wp2
        exact Hfin.out _ _ ((K6.out.mono (S' := fun k => w5.heap.size ≤ k ∧ k < w6.heap.size) (fun _ _ a => a.elim)).trans HKr.out) (fun k a b => by have b : w5.heap.size ≤ k ∧ k < w6.heap.size := b; omega)

/-- Any call of a script: both disks stay alike, and the call answers true. -/
theorem step_ok (op : DOp) (w : World) (B p q : Nat) (F G : Nat → Prop) (s : DiskS) (N : Nat) (h : Both w B F G p q s N) (ho : OpAt w B op) (hs : s.big + (op.bulk : Int) ≤ 4194304) (hN : N ≤ 4194304) :
    Calls Try.prog 23 #[.pointer (some ⟨p, 0, none⟩), .pointer (some ⟨q, 0, none⟩), op.arg] w (StepPost w B p q (s.big + (op.bulk : Int)) N) := by
  have a7 := and7 op.kind
  have hk8 : (op.kind % 8).toNat < 8 := by omega
  generalize (op.kind % 8).toNat = kd at a7 hk8
  rcases (by omega : (kd = 0 ∨ kd = 1 ∨ kd = 2) ∨ kd = 3 ∨ kd = 4 ∨ kd = 5 ∨ kd = 6 ∨ kd = 7) with hk | rfl | rfl | rfl | rfl | rfl
  · exact step_app op w B p q F G s N h ho hs hN _ (by omega) a7
  · exact step_sync op w B p q F G s N h hs a7
  · exact step_cut op w B p q F G s N h hs a7
  · exact step_rem op w B p q F G s N h hs a7
  · exact step_crash op w B p q F G s N h ho hs a7
  · exact step_read op w B p q F G s N h hs a7

end Go.Proofs.Ytnlmkfncdklcdaa
