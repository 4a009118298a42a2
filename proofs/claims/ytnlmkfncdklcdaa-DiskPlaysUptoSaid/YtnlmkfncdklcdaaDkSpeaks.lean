/-
  speaks of warrenlaw11.
-/
import Derived.Test.YtnlmkfncdklcdaaDkCrash
import Derived.Test.YtnlmkfncdklcdaaDkSame
import Derived.Test.YtnlmkfncdklcdaaDkAppOk
import Derived.Test.YtnlmkfncdklcdaaDkOpen
namespace Go.Proofs.Ytnlmkfncdklcdaa
open Go.RowKit

def nmF : ByteArray := ⟨#[102]⟩
def nmG : ByteArray := ⟨#[103]⟩
def fsA : List FlS := [⟨nmF, [1]⟩]
def fsB : List FlS := [⟨nmF, [1, 0, 0, 4]⟩, ⟨nmG, [5]⟩]
def sp0 : DiskS := openS fsA 100
def sp1 : DiskS := sp0.app nmF [2, 3]
def sp2 : DiskS := sp1.app nmF [4]
def sp3 : DiskS := sp2.app nmG [5]
theorem spE : openErr fsA [] = 0 := by kernel_rfl
theorem spe0 : sp0.appErr nmF 2 = 0 := by kernel_rfl
theorem spe1 : sp1.appErr nmF 1 = 0 := by kernel_rfl
theorem spe2 : sp2.appErr nmG 1 = 0 := by kernel_rfl
theorem spu : sp0.used = 1 ∧ sp1.used = 3 ∧ sp2.used = 4 ∧ sp3.used = 5 := by
  refine ⟨?_, ?_, ?_, ?_⟩ <;> kernel_rfl
theorem spd0 : (sp0.fileOr nmF).data = [1] := by kernel_rfl
theorem spd1 : (sp1.fileOr nmF).data = [1, 2, 3] := by kernel_rfl
theorem spd2 : (sp2.fileOr nmG).data = [] := by kernel_rfl
theorem spleft : sp3.left [false, true, true] (-1) = fsB := by kernel_rfl
theorem spfiles : sp3.files = [⟨nmF, [1, 2, 3, 4], [1]⟩, ⟨nmG, [5], []⟩] := by kernel_rfl
theorem sppend : sp3.pend = [⟨nmF, 1, [2, 3]⟩, ⟨nmF, 3, [4]⟩, ⟨nmG, 0, [5]⟩] := by kernel_rfl
theorem spget : sp3.get nmF.toList = some ⟨nmF, [1, 2, 3, 4], [1]⟩ := by kernel_rfl
theorem spsame : sameB fsB fsB = true := by kernel_rfl

theorem FlsAt.one {w : World} {F : Nat → Prop} {g : Nat} {nm : ByteArray} {B : Option Addr} {n d : Nat} {bs : List UInt8} (hF : F g) (hb : Blk w g 36 #[.string nm, .slice B n d]) (hl : n = bs.length) (h1 : nm.size ≤ 140737488351232) (h2 : bs.length ≤ 140737488351232) (hr : RB w F B bs) (hd : bs.length ≤ d ∧ d ≤ maxLen) (hB : B = none → bs = [] ∧ d = 0) :
    FlsAt w F (some ⟨g, 0, none⟩) [⟨nm, bs⟩] := by
  subst hl
  refine ⟨[[.string nm, .slice B bs.length d]], .inr ⟨g, 0, rfl, hF, fun j u hu => ?_⟩, rfl, fun j h h' => ?_⟩
  · rw [Nat.zero_add, hb.cell j]
    simpa using hu
  · have : j = 0 := by simpa using h
    subst this
    exact ⟨h1, h2, _, rfl, B, d, rfl, hr, hd.1, hd.2, hB⟩
theorem FlsAt.two {w : World} {F : Nat → Prop} {g : Nat} {nm nm' : ByteArray} {B B' : Option Addr} {n d n' d' : Nat} {bs bs' : List UInt8} (hF : F g) (hb : Blk w g 36 #[.string nm, .slice B n d, .string nm', .slice B' n' d']) (hl : n = bs.length) (hl' : n' = bs'.length)
    (h1 : nm.size ≤ 140737488351232) (h2 : bs.length ≤ 140737488351232) (hr : RB w F B bs) (hd : bs.length ≤ d ∧ d ≤ maxLen) (hB : B = none → bs = [] ∧ d = 0)
    (h1' : nm'.size ≤ 140737488351232) (h2' : bs'.length ≤ 140737488351232) (hr' : RB w F B' bs') (hd' : bs'.length ≤ d' ∧ d' ≤ maxLen) (hB' : B' = none → bs' = [] ∧ d' = 0) :
    FlsAt w F (some ⟨g, 0, none⟩) [⟨nm, bs⟩, ⟨nm', bs'⟩] := by
  subst hl hl'
  refine ⟨[[.string nm, .slice B bs.length d], [.string nm', .slice B' bs'.length d']], .inr ⟨g, 0, rfl, hF, fun j u hu => ?_⟩, rfl, fun j h h' => ?_⟩
  · rw [Nat.zero_add, hb.cell j]
    simpa using hu
  · match j, h with
    | 0, _ => exact ⟨h1, h2, _, rfl, B, d, rfl, hr, hd.1, hd.2, hB⟩
    | 1, _ => exact ⟨h1', h2', _, rfl, B', d', rfl, hr', hd'.1, hd'.2, hB'⟩

theorem spAppend {w : World} {F : Nat → Prop} {p N : Nat} {s : DiskS} (h : DAt w F p s N) (ha : Asc s.files) (hF : ∀ k, F k → k < w.heap.size) (nm : ByteArray) (b : List UInt8) (cs : Array Value) (hcs : cs.toList = bvs b) (hn : nm.size ≤ 140737488351232) (hb : b.length ≤ 140737488355328)
    (hu : 0 ≤ s.used ∧ s.used ≤ 1152921504606846976) (he : s.appErr nm b.length = 0) (hl : (s.fileOr nm).data.length + b.length ≤ 140737488355328) (hp : (s.pend.length + 1) * 48 ≤ 140737488355328) (hN : N < maxLen) :
    Calls Try.prog 19 #[.pointer (some ⟨p, 0, none⟩), .string nm, .slice (some ⟨w.heap.size, 0, none⟩) b.length b.length] (w.alloc (.cells cs 5)) fun e w' => e = .returned (.int .i64 0) ∧ ∃ F', DAt w' F' p (s.app nm b) (N + 1) ∧ Asc (s.app nm b).files ∧ (∀ k, F' k → F k ∨ w.heap.size ≤ k) ∧ (∀ k, F' k → k < w'.heap.size) ∧ Kept F w w' := by
  have k0 : Kept noneS w (w.alloc (.cells cs 5)) := (Kept.refl _ _).alloc _
  refine (appendOk F (· = w.heap.size) p N s nm (some ⟨w.heap.size, 0, none⟩) b b.length _ (h.keep k0 (fun _ _ q => q)) ha hn hb hu he (RB.lit w _ _ _ cs b hcs rfl) (fun q => by cases q) (fun k a q => by have := hF k a; omega) hl hp hN).mono ?_
  rintro e w' ⟨rfl, F', h1, h2, h3⟩
  refine ⟨rfl, F', h1, asc_put _ _ ha, fun k q => (h2 k q).imp id (fun e => Nat.le_trans k0.size e), ?_, (k0.mono (fun _ _ q => q.elim)).trans h3⟩
  obtain ⟨_, _, _, _, _, h4, _⟩ := h1
  exact h4

set_option maxRecDepth 100000 in
set_option maxHeartbeats 3200000 in
theorem speaks11 (w : World) : Calls Try.prog 8 #[] w fun e w' => e = .returned (.bool true) ∧ Kept noneS w w' := by
  have hfa : Hid (FlsAt ((w.alloc (.cells #[.int .u8 1] 5)).alloc (.cells #[.string ⟨#[102]⟩, .slice (some ⟨w.heap.size, 0, none⟩) 1 1] 36)) (fun _ => True) (some ⟨w.heap.size + 1, 0, none⟩) fsA) := Lib.hid (by
    have hb := Blk.new (w.alloc (.cells #[.int .u8 1] 5)) 36 #[.string ⟨#[102]⟩, .slice (some ⟨w.heap.size, 0, none⟩) 1 1]
    have e : (w.alloc (.cells #[.int .u8 1] 5)).heap.size = w.heap.size + 1 := by simp
    rw [e] at hb
    exact FlsAt.one trivial hb rfl (by decide) (by decide) ((RB.lit w _ _ _ #[.int .u8 1] [1] rfl trivial).alloc _) ⟨by decide, by decide⟩ (fun q => by cases q))
  have KA : Hid (Kept noneS w ((w.alloc (.cells #[.int .u8 1] 5)).alloc (.cells #[.string ⟨#[102]⟩, .slice (some ⟨w.heap.size, 0, none⟩) 1 1] 36))) := Lib.hid (((Kept.refl noneS w).alloc _).alloc _)
  go_enter Try.func8, Try.ntmps8
  go_wp2_with fail
  generalize (w.alloc (.cells #[.int .u8 1] 5)).alloc (.cells #[.string ⟨#[102]⟩, .slice (some ⟨w.heap.size, 0, none⟩) 1 1] 36) = w1 at hfa KA ⊢
  refine (diskOpen (some ⟨w.heap.size + 1, 0, none⟩) 1 fsA 100 (fun _ => True) w1 hfa.out (by decide) (by decide)).mono ?_
  rintro e w2 (⟨h, _⟩ | ⟨_, p, F, rfl, hd, hF, ha, k2⟩)
  · exact absurd spE h
  have D0 : Hid (DAt w2 F p sp0 1) := Lib.hid hd
  have A0 : Hid (Asc sp0.files) := Lib.hid ha
  have K2 := Lib.hid (KA.out.trans k2)
  have HF := Lib.hid (fun k q => Nat.le_trans KA.out.size (hF k q))
  have HFO : Hid (∀ k, F k → k < w2.heap.size) := Lib.hid (by
    obtain ⟨_, _, _, _, _, h2, _⟩ := hd
    exact h2)
  clear hd hF ha k2 hfa KA
  go_wp2_with fail
  refine (spAppend D0.out A0.out HFO.out nmF [2, 3] #[.int .u8 2, .int .u8 3] rfl (by decide) (by decide) (by rw [spu.1]; decide) spe0 (by rw [spd0]; decide) (by decide) (by decide)).mono ?_
  rintro e w3 ⟨rfl, F1, d1, a1, f1, o1, k1⟩
  have D1 : Hid (DAt w3 F1 p sp1 2) := Lib.hid d1
  have A1 : Hid (Asc sp1.files) := Lib.hid a1
  have F1' := Lib.hid (fun k q => (f1 k q).elim (HF.out k) (fun e => Nat.le_trans K2.out.size e))
  have O1 := Lib.hid o1
  have K3 := Lib.hid (K2.out.trans2 k1 (fun k a q => absurd a (Nat.not_lt.2 (HF.out k q))))
  clear d1 a1 f1 o1 k1 D0 A0 HF HFO K2
  go_wp2_with fail
  refine (spAppend D1.out A1.out O1.out nmF [4] #[.int .u8 4] rfl (by decide) (by decide) (by rw [spu.2.1]; decide) spe1 (by rw [spd1]; decide) (by decide) (by decide)).mono ?_
  rintro e w4 ⟨rfl, F2, d1, a1, f1, o1, k1⟩
  have D2 : Hid (DAt w4 F2 p sp2 3) := Lib.hid d1
  have A2 : Hid (Asc sp2.files) := Lib.hid a1
  have F2' := Lib.hid (fun k q => (f1 k q).elim (F1'.out k) (fun e => Nat.le_trans K3.out.size e))
  have O2 := Lib.hid o1
  have K4 := Lib.hid (K3.out.trans2 k1 (fun k a q => absurd a (Nat.not_lt.2 (F1'.out k q))))
  clear d1 a1 f1 o1 k1 D1 A1 F1' O1 K3
  go_wp2_with fail
  refine (spAppend D2.out A2.out O2.out nmG [5] #[.int .u8 5] rfl (by decide) (by decide) (by rw [spu.2.2.1]; decide) spe2 (by rw [spd2]; decide) (by decide) (by decide)).mono ?_
  rintro e w5 ⟨rfl, F3, d1, a1, f1, o1, k1⟩
  have D3 : Hid (DAt w5 F3 p sp3 4) := Lib.hid d1
  have A3 : Hid (Asc sp3.files) := Lib.hid a1
  have F3' := Lib.hid (fun k q => (f1 k q).elim (F2'.out k) (fun e => Nat.le_trans K4.out.size e))
  have K5 := Lib.hid (K4.out.trans2 k1 (fun k a q => absurd a (Nat.not_lt.2 (F2'.out k q))))
  clear d1 a1 f1 o1 k1 D2 A2 F2' O2 K4
  go_wp2_with fail
  have kk : Rd (w5.alloc (.cells #[.bool false, .bool true, .bool true] 4)) (fun _ => True) (some ⟨w5.heap.size, 0, none⟩) ([false, true, true].map Value.bool) := by
    refine .inr ⟨w5.heap.size, 0, rfl, trivial, fun j u hu => ?_⟩
    rw [Nat.zero_add, (Blk.new w5 4 #[.bool false, .bool true, .bool true]).cell j]
    simpa using hu
  have k6 : Kept noneS w5 (w5.alloc (.cells #[.bool false, .bool true, .bool true] 4)) := (Kept.refl _ _).alloc _
  refine (diskCrash F3 (fun _ => True) p 4 sp3 _ (some ⟨w5.heap.size, 0, none⟩) 3 [false, true, true] (-1) (D3.out.keep k6 (fun _ _ q => q)) A3.out kk (by decide) (by rw [spfiles]; decide) (by rw [spfiles, sppend]; decide) (by rw [sppend]; decide) (by rw [spfiles]; decide)).mono ?_
  rintro e w6 ⟨Ac, cc, rfl, fo, k7⟩
  rw [spleft] at fo
  rw [spleft]
  have FO := Lib.hid fo.fls
  have K6 := Lib.hid ((K5.out.trans k6).trans k7)
  have D6 := Lib.hid ((D3.out.keep k6 (fun _ _ q => q)).keep k7 (fun _ _ q => q))
  clear kk k6 k7 fo D3 F3' K5
  go_wp2_with fail
  refine (diskRead F3 p 4 sp3 nmF w6 D6.out (by decide) (by rw [spfiles]; decide)).mono ?_
  rintro e w7 hr
  unfold ReadPost at hr
  rw [spget] at hr
  obtain ⟨Ar, cr, rfl, or7, k7⟩ := hr
  have OR := Lib.hid (OB.rb or7).2
  have FO7 := Lib.hid (FO.out.still k7)
  have K7 := Lib.hid (K6.out.trans k7)
  have D7 := Lib.hid (D6.out.keep k7 (fun _ _ q => q))
  clear or7 k7 FO K6 D6
  go_wp2_with fail
  have k8 : Kept noneS w7 (((w7.alloc (.cells #[.int .u8 1, .int .u8 0, .int .u8 0, .int .u8 4] 5)).alloc (.cells #[.int .u8 5] 5)).alloc (.cells #[.string ⟨#[102]⟩, .slice (some ⟨w7.heap.size, 0, none⟩) 4 4, .string ⟨#[103]⟩, .slice (some ⟨w7.heap.size + 1, 0, none⟩) 1 1] 36)) := (((Kept.refl _ _).alloc _).alloc _).alloc _
  have fb : FlsAt (((w7.alloc (.cells #[.int .u8 1, .int .u8 0, .int .u8 0, .int .u8 4] 5)).alloc (.cells #[.int .u8 5] 5)).alloc (.cells #[.string ⟨#[102]⟩, .slice (some ⟨w7.heap.size, 0, none⟩) 4 4, .string ⟨#[103]⟩, .slice (some ⟨w7.heap.size + 1, 0, none⟩) 1 1] 36)) (fun _ => True) (some ⟨w7.heap.size + 1 + 1, 0, none⟩) fsB := by
    have hb := Blk.new ((w7.alloc (.cells #[.int .u8 1, .int .u8 0, .int .u8 0, .int .u8 4] 5)).alloc (.cells #[.int .u8 5] 5)) 36 #[.string ⟨#[102]⟩, .slice (some ⟨w7.heap.size, 0, none⟩) 4 4, .string ⟨#[103]⟩, .slice (some ⟨w7.heap.size + 1, 0, none⟩) 1 1]
    have e : ((w7.alloc (.cells #[.int .u8 1, .int .u8 0, .int .u8 0, .int .u8 4] 5)).alloc (.cells #[.int .u8 5] 5)).heap.size = w7.heap.size + 1 + 1 := by simp
    have e2 : (w7.alloc (.cells #[.int .u8 1, .int .u8 0, .int .u8 0, .int .u8 4] 5)).heap.size = w7.heap.size + 1 := by simp
    rw [e] at hb
    have hr2 := (RB.lit (w7.alloc (.cells #[.int .u8 1, .int .u8 0, .int .u8 0, .int .u8 4] 5)) (fun _ => True) 5 (0, 0) #[.int .u8 5] [5] rfl trivial)
    rw [e2] at hr2
    exact FlsAt.two trivial hb rfl rfl (by decide) (by decide) (((RB.lit w7 _ _ _ #[.int .u8 1, .int .u8 0, .int .u8 0, .int .u8 4] [1, 0, 0, 4] rfl trivial).alloc _).alloc _) ⟨by decide, by decide⟩ (fun q => by cases q) (by decide) (by decide) (hr2.alloc _) ⟨by decide, by decide⟩ (fun q => by cases q)
  refine (sameFiles Ac (some ⟨w7.heap.size + 1 + 1, 0, none⟩) cc 2 fsB.length 2 fsB fsB _ (fun _ => True) _ (FO7.out.still k8) fb rfl rfl (by decide) (by decide)).mono ?_
  rw [spsame]
  rintro e w8 ⟨rfl, k9⟩
  have OR8 := Lib.hid ((OR.out.still k8).still k9)
  have K8 := Lib.hid ((K7.out.trans k8).trans k9)
  have D8 := Lib.hid ((D7.out.keep k8 (fun _ _ q => q)).keep k9 (fun _ _ q => q))
  clear k8 fb k9 FO7 OR K7 D7
  go_wp2_with fail
  refine (same_any Ar (some ⟨w8.heap.size, 0, none⟩) cr 4 4 4 [1, 2, 3, 4] [1, 2, 3, 4] _ (fun _ => True) _ (OR8.out.alloc _) (RB.lit w8 _ _ _ #[.int .u8 1, .int .u8 2, .int .u8 3, .int .u8 4] [1, 2, 3, 4] rfl trivial) rfl rfl).mono ?_
  rintro e w9 ⟨rfl, rfl⟩
  rw [show (([1, 2, 3, 4] : List UInt8) == [1, 2, 3, 4]) = true from rfl]
  have K9 := Lib.hid (K8.out.alloc (.cells #[.int .u8 1, .int .u8 2, .int .u8 3, .int .u8 4] 5))
  have D9 := Lib.hid (D8.out.keep ((Kept.refl noneS w8).alloc (.cells #[.int .u8 1, .int .u8 2, .int .u8 3, .int .u8 4] 5)) (fun _ _ q => q))
  generalize w8.alloc (.cells #[.int .u8 1, .int .u8 2, .int .u8 3, .int .u8 4] 5) = w9 at K9 D9 ⊢
  clear K8 D8 OR8
  go_wp2_with fail
  refine (diskPending F3 p 4 sp3 w9 D9.out).mono ?_
  rintro e w10 ⟨rfl, rfl⟩
  rw [show (sp3.pend.length : Int) = 3 by rw [sppend]; rfl]
  go_wp2_with fail
  refine (diskUsed F3 p 4 sp3 w9 D9.out).mono ?_
  rintro e w10 ⟨rfl, rfl⟩
  rw [spu.2.2.2]
  go_wp2_with fail
  refine (diskNames F3 p 4 sp3 w9 D9.out A3.out (by rw [spfiles]; decide)).mono ?_
  rintro e w10 ⟨An, cn, rfl, _, kn⟩
  rw [show sp3.files.length = 2 by rw [spfiles]; rfl]
  have K10 := Lib.hid (K9.out.trans kn)
  clear kn K9
  go_wp2
  go_ret
  exact ⟨rfl, K10.out⟩

end Go.Proofs.Ytnlmkfncdklcdaa
