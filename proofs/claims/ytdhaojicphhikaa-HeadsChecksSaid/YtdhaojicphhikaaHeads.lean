/-
  heads: isText, holds, Match, Check; strings.HasPrefix of x-.
-/
import Derived.Test.YtdhaojicphhikaaTCheck
import Derived.Test.YtdhaojicphhikaaTGet
import Derived.Test.YtdhaojicphhikaaTFSame
namespace Go.Proofs.Ytdhaojicphhikaa
open Go.RowKit

def isTextB (v : FV) (s : ByteArray) : Bool := (v.kind == 83) && (v.text.toList == s.toList)

theorem isText (v : FV) (A B : Option Addr) (c d : Nat) (s : ByteArray) (w : World) : Calls Try.prog 16 #[.agg #[.int .i64 v.kind, .int .i64 v.num, .string v.text, .slice A v.list.length c, .slice B v.table.length d], .string s] w fun e w' => e = .returned (.bool (isTextB v s)) ∧ Kept noneS w w' := by
  obtain ⟨r, HR⟩ : ∃ r, Hid (isTextB v s = r) := ⟨_, Lib.hid rfl⟩
  rw [HR.out]
  have KA := Lib.hid ((Kept.refl noneS w).alloc (.cells #[.int .i64 v.kind, .int .i64 v.num, .string v.text, .slice A v.list.length c, .slice B v.table.length d] 32))
  rcases q : (v.kind == 83) with _ | _
  · obtain rfl : r = false := by rw [← HR.out]; unfold isTextB; rw [q]; rfl
    clear HR
    go_enter Try.func16, Try.ntmps16
    go_wp2
    go_ret
    exact ⟨rfl, KA.out⟩
  · obtain rfl : r = (v.text.toList == s.toList) := by rw [← HR.out]; unfold isTextB; rw [q]; rfl
    clear HR
    go_enter Try.func16, Try.ntmps16
    go_wp2
    go_ret
    exact ⟨rfl, KA.out⟩

/-- A name that begins with x-. -/
def ownB (s : ByteArray) : Bool := decide (2 ≤ s.size) && ((s.extract 0 2).toList == [120, 45])

theorem hasPrefix0 (s : ByteArray) (w : World) (hs : s.size ≤ 140737488351232) : Calls Try.prog 23 #[.string s, .string ⟨#[120, 45]⟩] w fun e w' => e = .returned (.bool (ownB s)) ∧ w = w' := by
  by_cases h : 2 ≤ s.size
  · have h' : decide (2 ≤ (s.size : Int)) = true := by simp; omega
    go_enter Try.func23, Try.ntmps23
    go_wp2
    go_ret
    exact ⟨retB (by unfold ownB; rw [decide_eq_true h]; rfl), rfl⟩
  · have h' : decide (2 ≤ (s.size : Int)) = false := by simp; omega
    go_enter Try.func23, Try.ntmps23
    go_wp2
    go_ret
    exact ⟨retB (by unfold ownB; rw [decide_eq_false h]; rfl), rfl⟩

theorem hasPrefix (s : ByteArray) (w : World) (hs : s.size ≤ 140737488351232) : Calls Try.prog 19 #[.string s, .string ⟨#[120, 45]⟩] w fun e w' => e = .returned (.bool (ownB s)) ∧ w = w' := by
  obtain ⟨r, HR⟩ : ∃ r, Hid (ownB s = r) := ⟨_, Lib.hid rfl⟩
  rw [HR.out]
  go_enter Try.func19, Try.ntmps19
  go_wp2_with (go_at_call 23; refine (hasPrefix0 s _ hs).mono ?_; rw [HR.out]; rintro e w' ⟨rfl, rfl⟩)
  go_ret
  exact ⟨rfl, rfl⟩

theorem TAt.one {w : World} {F : Nat → Prop} {b : Nat} {f : FF} {A B : Option Addr} {c d : Nat} (hb : Blk w b 34 (fCells f A c B d).toArray) (hn : f.name.size ≤ 140737488351232) (hf : f.val.fit c d) (hl : LAt w F A f.val.list) (ht : TAt w F B f.val.table) : TAt w (fun k => F k ∨ k = b) (some ⟨b, 0, none⟩) [f] := by
  refine ⟨[fCells f A c B d], .inr ⟨b, 0, rfl, .inr rfl, fun j u hu => ?_⟩, ?_⟩
  · rw [Nat.zero_add, hb.cell j]
    simpa using hu
  · rw [FsAt]
    refine ⟨_, [], rfl, FAt.mk' hn hf (hl.mono (fun k _ a => .inl a)) (ht.mono (fun k _ a => .inl a)), by rw [FsAt]⟩

theorem sameFs_one (v v' : FV) : sameFs [.mk ⟨#[]⟩ v] [.mk ⟨#[]⟩ v'] = sameV v v' := by
  rw [sameFs, sameF, sameFs]
  simp

theorem same_pair (w1 : World) (o : Obj) (F G : Nat → Prop) (v v' : FV) (A B A' B' : Option Addr) (c d c' d' : Nat) (hf : v.fit c d) (hl : LAt w1 F A v.list) (ht : TAt w1 F B v.table) (hf' : v'.fit c' d') (hl' : LAt w1 G A' v'.list) (ht' : TAt w1 G B' v'.table) :
    TAt (((w1.alloc o).alloc (.cells #[.string ⟨#[]⟩, .int .i64 v.kind, .int .i64 v.num, .string v.text, .slice A v.list.length c, .slice B v.table.length d] 34)).alloc (.cells #[.string ⟨#[]⟩, .int .i64 v'.kind, .int .i64 v'.num, .string v'.text, .slice A' v'.list.length c', .slice B' v'.table.length d'] 34)) (fun k => F k ∨ k = w1.heap.size + 1) (some ⟨w1.heap.size + 1, 0, none⟩) [.mk ⟨#[]⟩ v] ∧
    TAt (((w1.alloc o).alloc (.cells #[.string ⟨#[]⟩, .int .i64 v.kind, .int .i64 v.num, .string v.text, .slice A v.list.length c, .slice B v.table.length d] 34)).alloc (.cells #[.string ⟨#[]⟩, .int .i64 v'.kind, .int .i64 v'.num, .string v'.text, .slice A' v'.list.length c', .slice B' v'.table.length d'] 34)) (fun k => G k ∨ k = w1.heap.size + 1 + 1) (some ⟨w1.heap.size + 1 + 1, 0, none⟩) [.mk ⟨#[]⟩ v'] := by
  have h1 := (Blk.new (w1.alloc o) 34 #[.string ⟨#[]⟩, .int .i64 v.kind, .int .i64 v.num, .string v.text, .slice A v.list.length c, .slice B v.table.length d]).alloc (.cells #[.string ⟨#[]⟩, .int .i64 v'.kind, .int .i64 v'.num, .string v'.text, .slice A' v'.list.length c', .slice B' v'.table.length d'] 34)
  have h2 := Blk.new ((w1.alloc o).alloc (.cells #[.string ⟨#[]⟩, .int .i64 v.kind, .int .i64 v.num, .string v.text, .slice A v.list.length c, .slice B v.table.length d] 34)) 34 #[.string ⟨#[]⟩, .int .i64 v'.kind, .int .i64 v'.num, .string v'.text, .slice A' v'.list.length c', .slice B' v'.table.length d']
  rw [show (w1.alloc o).heap.size = w1.heap.size + 1 by simp] at h1
  rw [show ((w1.alloc o).alloc (.cells #[.string ⟨#[]⟩, .int .i64 v.kind, .int .i64 v.num, .string v.text, .slice A v.list.length c, .slice B v.table.length d] 34)).heap.size = w1.heap.size + 1 + 1 by simp] at h2
  have k : Kept noneS w1 (((w1.alloc o).alloc (.cells #[.string ⟨#[]⟩, .int .i64 v.kind, .int .i64 v.num, .string v.text, .slice A v.list.length c, .slice B v.table.length d] 34)).alloc (.cells #[.string ⟨#[]⟩, .int .i64 v'.kind, .int .i64 v'.num, .string v'.text, .slice A' v'.list.length c', .slice B' v'.table.length d'] 34)) := (((Kept.refl _ _).alloc _).alloc _).alloc _
  exact ⟨TAt.one (f := .mk ⟨#[]⟩ v) h1 (Nat.zero_le _) hf (hl.still k) (ht.still k), TAt.one (f := .mk ⟨#[]⟩ v') h2 (Nat.zero_le _) hf' (hl'.still k) (ht'.still k)⟩

/-- The headers have what the field wants. -/
def holdsB (f : FF) (hd : List FF) : Bool := hasT hd f.name && ((f.val.kind == 86) || sameV (getV hd f.name) f.val)

set_option maxHeartbeats 1600000 in
theorem holds (f : FF) (A B : Option Addr) (c d : Nat) (hd : List FF) (H : Option Addr) (ch : Nat) (F G : Nat → Prop) (w : World) (hL : LAt w F A f.val.list) (hT : TAt w F B f.val.table) (hf : f.val.fit c d) (hH : TAt w G H hd) (hl : hd.length * 96 ≤ 140737488355328) :
    Calls Try.prog 20 #[.agg #[.string f.name, .int .i64 f.val.kind, .int .i64 f.val.num, .string f.val.text, .slice A f.val.list.length c, .slice B f.val.table.length d], .slice H hd.length ch] w fun e w' => e = .returned (.bool (holdsB f hd)) ∧ Kept noneS w w' := by
  obtain ⟨r, HR⟩ : ∃ r, Hid (holdsB f hd = r) := ⟨_, Lib.hid rfl⟩
  rw [HR.out]
  have ka : Kept noneS w (w.alloc (.cells #[.string f.name, .int .i64 f.val.kind, .int .i64 f.val.num, .string f.val.text, .slice A f.val.list.length c, .slice B f.val.table.length d] 34)) := (Kept.refl noneS w).alloc _
  have BK := Lib.hid (Blk.new w 34 #[.string f.name, .int .i64 f.val.kind, .int .i64 f.val.num, .string f.val.text, .slice A f.val.list.length c, .slice B f.val.table.length d])
  have KA := Lib.hid ka
  have HL := Lib.hid (hL.still ka)
  have HT := Lib.hid (hT.still ka)
  have HH := Lib.hid (hH.still ka)
  have HF := Lib.hid hf
  clear ka hL hT hH hf
  go_enter Try.func20, Try.ntmps20
  go_wp2_with fail
  refine (ftGet H ch hd f.name G _ HH.out hl).mono ?_
  rintro e w1 hg
  unfold GetPost at hg
  obtain ⟨A1, c1, B1, d1, he, fit1, l1, t1, k1⟩ := hg
  rcases hh : hasT hd f.name with _ | _
  · obtain rfl : r = false := by rw [← HR.out]; unfold holdsB; rw [hh]; rfl
    rw [hh] at he
    subst he
    have K1 := Lib.hid (KA.out.trans k1)
    clear k1 l1 t1 fit1 HR hh
    go_wp2_with fail
    go_ret
    exact ⟨rfl, K1.out.alloc _⟩
  · rw [hh] at he
    subst he
    have bk1 := BK.out.keep k1 (fun q => q)
    have s1 : w1.cell? ⟨w.heap.size, 1, none⟩ = some (.int .i64 f.val.kind) := bk1.cell 1
    have s2 : w1.cell? ⟨w.heap.size, 1 + 1, none⟩ = some (.int .i64 f.val.num) := bk1.cell 2
    have s3 : w1.cell? ⟨w.heap.size, 1 + 2, none⟩ = some (.string f.val.text) := bk1.cell 3
    have s4 : w1.cell? ⟨w.heap.size, 1 + 3, none⟩ = some (.slice A f.val.list.length c) := bk1.cell 4
    have s5 : w1.cell? ⟨w.heap.size, 1 + 4, none⟩ = some (.slice B f.val.table.length d) := bk1.cell 5
    have hb1 := bk1.lt
    have K1 := Lib.hid (KA.out.trans k1)
    have HL' := Lib.hid (HL.out.still k1)
    have HT' := Lib.hid (HT.out.still k1)
    have L1 := Lib.hid l1
    have T1 := Lib.hid t1
    have F1 := Lib.hid fit1
    clear k1 l1 t1 fit1 bk1 BK HL HT HH KA
    rcases hk : (f.val.kind == 86) with _ | _
    · have HR' : Hid (sameV (getV hd f.name) f.val = r) := Lib.hid (by rw [← HR.out]; unfold holdsB; rw [hh, hk]; rfl)
      clear HR hh
      generalize getV hd f.name = v at HR' L1 T1 F1 ⊢
      have SP := Lib.hid (same_pair w1 (.cells #[.int .i64 v.kind, .int .i64 v.num, .string v.text, .slice A1 v.list.length c1, .slice B1 v.table.length d1] 32) G F v f.val A1 B1 A B c1 d1 c d F1.out L1.out T1.out HF.out HL'.out HT'.out)
      go_wp2_with fail
      refine (ftSameT [.mk ⟨#[]⟩ v] (fun f _ => fsv f.val) [.mk ⟨#[]⟩ f.val] _ _ 1 1 _ _ _ SP.out.1 SP.out.2 (by simp) (by simp)).mono ?_
      rw [sameFs_one, HR'.out]
      rintro e w2 ⟨rfl, k2⟩
      have K2 := Lib.hid ((((K1.out.alloc _).alloc _).alloc _).trans k2)
      clear k2
      go_wp2
      go_ret
      exact ⟨rfl, K2.out⟩
    · obtain rfl : r = true := by rw [← HR.out]; unfold holdsB; rw [hh, hk]; rfl
      clear HR hh
      go_wp2_with fail
      go_ret
      exact ⟨rfl, K1.out.alloc _⟩

/-- x-match. -/
def sMode : ByteArray := ⟨#[120, 45, 109, 97, 116, 99, 104]⟩
def sAny : ByteArray := ⟨#[97, 110, 121]⟩
def sAll : ByteArray := ⟨#[97, 108, 108]⟩

def anyB (t : List FF) : Bool := hasT t sMode && isTextB (getV t sMode) sAny
/-- The place decides. -/
def decB (a : Bool) (hd : List FF) (f : FF) : Bool := !ownB f.name && (holdsB f hd == a)
def matchB (t hd : List FF) : Bool := if t.any (decB (anyB t) hd) = true then anyB t else !anyB t

theorem match_at (t hd : List FF) (a : Bool) (ha : anyB t = a) (j : Nat) (hj : j < t.length) (h : decB a hd t[j] = true) : matchB t hd = a := by
  unfold matchB
  rw [ha, if_pos (List.any_eq_true.2 ⟨t[j], List.getElem_mem hj, h⟩)]
theorem match_end (t hd : List FF) (a : Bool) (ha : anyB t = a) (h : ∀ k (hk : k < t.length), decB a hd t[k] = false) : matchB t hd = !a := by
  unfold matchB
  rw [ha, if_neg]
  rw [List.any_eq_true]
  rintro ⟨x, hx, hy⟩
  obtain ⟨k, hk, rfl⟩ := List.getElem_of_mem hx
  rw [h k hk] at hy
  cases hy

set_option maxHeartbeats 3200000 in
theorem headsMatch (t hd : List FF) (A H : Option Addr) (c ch : Nat) (F G : Nat → Prop) (w : World) (h : TAt w F A t) (hH : TAt w G H hd) (hl : t.length * 96 ≤ 140737488355328) (hl' : hd.length * 96 ≤ 140737488355328) :
    Calls Try.prog 12 #[.slice A t.length c, .slice H hd.length ch] w fun e w' => e = .returned (.bool (matchB t hd)) ∧ Kept noneS w w' := by
  obtain ⟨r, HR⟩ : ∃ r, Hid (matchB t hd = r) := ⟨_, Lib.hid rfl⟩
  rw [HR.out]
  have HT := Lib.hid h
  have HH := Lib.hid hH
  clear h hH
  suffices key : ∀ a : Bool, anyB t = a → Calls Try.prog 12 #[.slice A t.length c, .slice H hd.length ch] w fun e w' => e = .returned (.bool r) ∧ Kept noneS w w' from key _ rfl
  intro a ha
  have HA := Lib.hid ha
  have HM1 := Lib.hid (match_at t hd a ha)
  have HM2 := Lib.hid (match_end t hd a ha)
  rw [HR.out] at HM1 HM2
  clear ha HR
  go_enter Try.func12, Try.ntmps12
  go_wp2_with fail
  refine (ftGet A c t sMode F _ HT.out hl).mono ?_
  rintro e w1 hg
  unfold GetPost at hg
  obtain ⟨A1, c1, B1, d1, he, fit1, l1, t1, k1⟩ := hg
  have K1 := Lib.hid k1
  have HA' : Hid ((hasT t sMode && isTextB (getV t sMode) sAny) = a) := Lib.hid (by rw [← HA.out]; rfl)
  generalize getV t sMode = v at he HA'
  generalize hasT t sMode = th at he HA'
  subst he
  clear fit1 l1 t1 k1 HA
  go_upto_region 2 with (fail)
  go_cut [7] from 15 to 19 (fun u wx => u = .bool a ∧ Kept noneS w wx)
  case first =>
    rcases th with _ | _
    · obtain rfl : a = false := by rw [← HA'.out]; rfl
      clear HA'
      go_wp2_with fail
      go_meet
      case rel => exact ⟨rfl, K1.out.alloc _⟩
    · have HA2 : Hid (isTextB v sAny = a) := Lib.hid (by rw [← HA'.out]; rfl)
      clear HA'
      go_wp2_with fail
      refine (isText v A1 B1 c1 d1 sAny _).mono ?_
      rw [HA2.out]
      rintro e w2 ⟨rfl, k2⟩
      have K2 := Lib.hid ((K1.out.alloc _).trans k2)
      clear k2
      go_wp2
      go_meet
      case rel => exact ⟨rfl, K2.out⟩
  case rest =>
    obtain ⟨rfl, kc⟩ := hcut
    have KC := Lib.hid kc
    clear kc K1 HA'
    go_wp2_with fail
    go_loopw [22] (fun i wr => ∃ j : Nat, j ≤ t.length ∧ i = .int .i64 j ∧ Hid (∀ k (_ : k < j) (hk : k < t.length), decB a hd t[k] = false) ∧ Kept noneS w wr) (fun i _ => t.length - (intOf i).toNat)
    case atStart => exact ⟨0, Nat.zero_le _, rfl, Lib.hid (fun k h => by omega), KC.out⟩
    case round =>
      obtain ⟨j, hj, rfl, HN, hk⟩ := hrel
      have KR := Lib.hid hk
      clear hk KC
      by_cases hlt : j < t.length
      · obtain ⟨g, o, B3, c3, B4, c4, rfl, _, hnm, hf1, hL1, hT1, d0, d1', d2, d3, d4, d5⟩ := (HT.out.still KR.out).at_ hlt
        have HF := Lib.hid (HM1.out j hlt)
        have HG : Hid (decB a hd t[j] = false → ∀ k (_ : k < j + 1) (hk : k < t.length), decB a hd t[k] = false) := Lib.hid (fun q k h a => by
          rcases Nat.lt_or_ge k j with hk | hk
          · exact HN.out k hk a
          · obtain rfl : k = j := by omega
            exact q)
        generalize t[j] = f at *
        have hji : (j : Int) < (t.length : Int) := by omega
        have hj0 : (0 : Int) ≤ (j : Int) := by omega
        have HL1 := Lib.hid hL1
        have HT1 := Lib.hid hT1
        have HF1 := Lib.hid hf1
        clear hL1 hT1 hf1 HM1
        rcases ho : ownB f.name with _ | _
        · rcases hh : holdsB f hd with _ | _
          · rcases a with _ | _
            · obtain rfl : r = false := HF.out (by unfold decB; rw [ho, hh]; rfl)
              clear HF HG HM2
              go_wp2_with (go_at_call 19; refine (hasPrefix f.name _ hnm).mono ?_; rw [ho]; rintro e w' ⟨rfl, rfl⟩)
              refine (holds f B3 B4 c3 c4 hd H ch F G _ (HL1.out.still ((Kept.refl _ _).alloc _)) (HT1.out.still ((Kept.refl _ _).alloc _)) HF1.out (HH.out.still (KR.out.alloc _)) hl').mono ?_
              rw [hh]
              rintro e w2 ⟨rfl, k2⟩
              have K2 := Lib.hid ((KR.out.alloc _).trans k2)
              clear k2
              go_wp2
              go_ret
              exact ⟨rfl, K2.out⟩
            · have HG' := Lib.hid (HG.out (by unfold decB; rw [ho, hh]; rfl))
              clear HF HG
              go_wp2_with (go_at_call 19; refine (hasPrefix f.name _ hnm).mono ?_; rw [ho]; rintro e w' ⟨rfl, rfl⟩)
              refine (holds f B3 B4 c3 c4 hd H ch F G _ (HL1.out.still ((Kept.refl _ _).alloc _)) (HT1.out.still ((Kept.refl _ _).alloc _)) HF1.out (HH.out.still (KR.out.alloc _)) hl').mono ?_
              rw [hh]
              rintro e w2 ⟨rfl, k2⟩
              have K2 := Lib.hid ((KR.out.alloc _).trans k2)
              clear k2
              go_wp2
              go_roundw
              case rel => exact ⟨j + 1, by omega, by go_num, HG', K2.out⟩
              case measure => simp [intOf]; omega
          · rcases a with _ | _
            · have HG' := Lib.hid (HG.out (by unfold decB; rw [ho, hh]; rfl))
              clear HF HG
              go_wp2_with (go_at_call 19; refine (hasPrefix f.name _ hnm).mono ?_; rw [ho]; rintro e w' ⟨rfl, rfl⟩)
              refine (holds f B3 B4 c3 c4 hd H ch F G _ (HL1.out.still ((Kept.refl _ _).alloc _)) (HT1.out.still ((Kept.refl _ _).alloc _)) HF1.out (HH.out.still (KR.out.alloc _)) hl').mono ?_
              rw [hh]
              rintro e w2 ⟨rfl, k2⟩
              have K2 := Lib.hid ((KR.out.alloc _).trans k2)
              clear k2
              go_wp2
              go_roundw
              case rel => exact ⟨j + 1, by omega, by go_num, HG', K2.out⟩
              case measure => simp [intOf]; omega
            · obtain rfl : r = true := HF.out (by unfold decB; rw [ho, hh]; rfl)
              clear HF HG HM2
              go_wp2_with (go_at_call 19; refine (hasPrefix f.name _ hnm).mono ?_; rw [ho]; rintro e w' ⟨rfl, rfl⟩)
              refine (holds f B3 B4 c3 c4 hd H ch F G _ (HL1.out.still ((Kept.refl _ _).alloc _)) (HT1.out.still ((Kept.refl _ _).alloc _)) HF1.out (HH.out.still (KR.out.alloc _)) hl').mono ?_
              rw [hh]
              rintro e w2 ⟨rfl, k2⟩
              have K2 := Lib.hid ((KR.out.alloc _).trans k2)
              clear k2
              go_wp2
              go_ret
              exact ⟨rfl, K2.out⟩
        · have HG' := Lib.hid (HG.out (by unfold decB; rw [ho]; rfl))
          clear HG HF
          go_wp2_with (go_at_call 19; refine (hasPrefix f.name _ hnm).mono ?_; rw [ho]; rintro e w' ⟨rfl, rfl⟩)
          go_roundw
          case rel => exact ⟨j + 1, by omega, by go_num, HG', KR.out.alloc _⟩
          case measure => simp [intOf]; omega
      · obtain rfl : j = t.length := by omega
        obtain rfl : r = !a := HM2.out (fun k hk => HN.out k hk hk)
        go_wp2
        go_ret
        exact ⟨rfl, KR.out⟩

end Go.Proofs.Ytdhaojicphhikaa
