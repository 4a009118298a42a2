/-
  The protocol header: frame.Parser.Hello; warrenref04.Parser: drop, Hello.
-/
import Derived.Test.YtkkfifocilnbkaaNext
namespace Go.Proofs.Ytkkfifocilnbkaa
open Go.RowKit

def helloS : ByteArray := ⟨#[65, 77, 81, 80, 0, 0, 9, 1]⟩

structure HelloR where
  ok : Bool
  err : Int
  rest : List UInt8

def helloOf (bs : List UInt8) : HelloR :=
  if bs.take 8 ≠ helloBs.take bs.length then ⟨false, 40, bs⟩ else if bs.length < 8 then ⟨false, 0, bs⟩ else ⟨true, 0, bs.drop 8⟩

section
variable (w : World)
theorem run_slice_to (A : Option Addr) (n c k : Nat) (h1 : k ≤ c) : (Instr.slice 23 (.slice A n c) none (some (.int .i64 (k : Int))) none).run Try.prog w = .ok (.slice A k c) w := by
  obtain ⟨i, hi', _, hs, _⟩ := info_parts infoU8
  have h3 : (k : Int) ≤ (c : Int) := by omega
  have h4 : (A.map (·.add 0)) = A := by cases A <;> simp [Addr.add]
  simp [Instr.slice, run_underlying Try.underlying23, Instr.sliceBounds, run_sliceBound, sizeOf, typeInfo, hi', hs, h1, h3, h4]
theorem run_str_to (s : ByteArray) (k : Nat) (h : k ≤ s.size) : (Instr.slice 9 (.string s) none (some (.int .i64 (k : Int))) none).run Try.prog w = .ok (.string (s.extract 0 k)) w := by
  have h3 : (k : Int) ≤ (s.size : Int) := by omega
  simp [Instr.slice, run_underlying Try.underlying9, Instr.sliceBounds, run_sliceBound, h, h3]
end

theorem hello_ext (bs : List UInt8) (k : Nat) (hk : k ≤ 8) : ((⟨bs.toArray⟩ : ByteArray) = helloS.extract 0 k) ↔ bs = helloBs.take k := by
  have h : helloS.extract 0 k = ⟨(helloBs.take k).toArray⟩ := by
    rcases (by omega : k = 0 ∨ k = 1 ∨ k = 2 ∨ k = 3 ∨ k = 4 ∨ k = 5 ∨ k = 6 ∨ k = 7 ∨ k = 8) with rfl | rfl | rfl | rfl | rfl | rfl | rfl | rfl | rfl <;> decide
  rw [h]
  constructor
  · intro e
    have := congrArg (fun b : ByteArray => b.data.toList) e
    simpa using this
  · intro e
    rw [e]

def HelloPost (w : World) (F : Nat → Prop) (p : Nat) (mx : Int) (r : HelloR) (e : Ending) (w' : World) : Prop :=
  e = .returned (.tuple #[.bool r.ok, .int .i64 r.err]) ∧ PAt w' F p r.rest mx ∧ Kept F w w'

theorem PAt.stored {w : World} {F : Nat → Prop} {p : Nat} {mx : Int} {bs : List UInt8} {A : Option Addr} {n c : Nat} {v : Value} (hp : F p) (hb : Blk w p 67 #[v, .int .i64 mx]) (hs : Seg w F A n c bs) : PAt (w.setCell ⟨p, 0, none⟩ (.slice A n c)) F p bs mx := by
  refine ⟨hp, A, n, c, hb.set_ 0 _, hs.1, ?_⟩
  rcases hs.2 with h | ⟨g, o, cur, hA, hF, hbg, h⟩
  · exact .inl h
  · exact .inr ⟨g, o, cur, hA, hF, hbg.far (p := ⟨p, 0, none⟩) (fun e => (hb.ne_ hbg (by decide)) e.symm) _, h⟩

theorem hello_take (bs : List UInt8) (k : Nat) (hk : k = min bs.length 8) : bs.take 8 = bs.take k ∧ helloBs.take bs.length = helloBs.take k := by
  subst hk
  by_cases h8 : bs.length ≤ 8
  · rw [Nat.min_eq_left h8, List.take_length, List.take_of_length_le h8]
    exact ⟨rfl, rfl⟩
  · rw [Nat.min_eq_right (by omega), List.take_of_length_le (show helloBs.length ≤ bs.length by show 8 ≤ _; omega), List.take_of_length_le (show helloBs.length ≤ 8 by show 8 ≤ 8; omega)]
    exact ⟨rfl, rfl⟩

set_option maxHeartbeats 1000000 in
theorem parserHello (mx : Int) (w : World) (F : Nat → Prop) (p : Nat) (bs : List UInt8) (h : PAt w F p bs mx) (hbl : bs.length ≤ 140737488355328) :
    Calls Try.prog 16 #[.pointer (some ⟨p, 0, none⟩)] w (HelloPost w F p mx (helloOf bs)) := by
  have HH := Lib.hid h
  obtain ⟨r, HR⟩ : ∃ r, Hid (helloOf bs = r) := ⟨_, Lib.hid rfl⟩
  rw [HR.out]
  obtain ⟨hp, A, n, c, hb, hs⟩ := h
  have hn := hs.len
  have hc := hs.cap
  have c0 : w.cell? ⟨p, 0, none⟩ = some (.slice A n c) := hb.cell 0
  have f0 := hb.frozen 0
  have hn63 : n ≤ 140737488355328 := by omega
  have hx : ∀ k : Nat, k ≤ 8 → (helloS.extract 0 k).toList = helloBs.take k := by
    intro k hk
    rcases (by omega : k = 0 ∨ k = 1 ∨ k = 2 ∨ k = 3 ∨ k = 4 ∨ k = 5 ∨ k = 6 ∨ k = 7 ∨ k = 8) with rfl | rfl | rfl | rfl | rfl | rfl | rfl | rfl | rfl <;> kernel_rfl
  have HB := Lib.hid hb
  have HS := Lib.hid hs
  have not40 : Hid (bs.take 8 ≠ helloBs.take bs.length → r = ⟨false, 40, bs⟩) := Lib.hid (fun hne => by rw [← HR.out]; unfold helloOf; rw [if_pos hne])
  have notOk : Hid (bs.take 8 = helloBs.take bs.length → bs.length < 8 → r = ⟨false, 0, bs⟩) := Lib.hid (fun he hl => by rw [← HR.out]; unfold helloOf; rw [if_neg (fun q => q he), if_pos hl])
  have yes : Hid (bs.take 8 = helloBs.take bs.length → ¬ bs.length < 8 → r = ⟨true, 0, bs.drop 8⟩) := Lib.hid (fun he hl => by rw [← HR.out]; unfold helloOf; rw [if_neg (fun q => q he), if_neg hl])
  have stays : Hid (∀ e w', (∃ er : Int, r = ⟨false, er, bs⟩ ∧ e = .returned (.tuple #[.bool false, .int .i64 er])) → Kept noneS w w' → HelloPost w F p mx r e w') := Lib.hid (by
    rintro e w' ⟨er, rfl, he⟩ hk
    exact ⟨he, HH.out.keep hk (fun _ _ _ q => q.elim), hk.mono (fun _ _ q => q.elim)⟩)
  have goes : Hid (∀ m : Nat, r = ⟨true, 0, bs.drop 8⟩ → ∀ A' n' c', Seg (w.drewN m) F A' n' c' (bs.drop 8) → HelloPost w F p mx r (.returned (.tuple #[.bool true, .int .i64 0])) ((w.drewN m).setCell ⟨p, 0, none⟩ (.slice A' n' c'))) := Lib.hid (by
    rintro m rfl A' n' c' hs'
    exact ⟨rfl, PAt.stored hp (HB.out.drewN m) hs', ((Kept.refl F w).drewN m).setCell (p := ⟨p, 0, none⟩) (fun _ => hp) _⟩)
  generalize hW : HelloPost w F p mx r = Post at stays goes ⊢
  clear hW HR HH
  by_cases h8 : 8 < n
  · have ht := hello_take bs 8 (by omega)
    have l8 : (bs.take 8).length = 8 := by rw [List.length_take]; omega
    have g1 : ∀ W, (Instr.slice 23 (.slice A n c) none (some (.int .i64 8)) none).run Try.prog W = .ok (.slice A 8 c) W := fun W => run_slice_to W A n c 8 (by omega)
    have g2 : ∀ W, (Instr.slice 9 (.string ⟨#[65, 77, 81, 80, 0, 0, 9, 1]⟩) none (some (.int .i64 8)) none).run Try.prog W = .ok (.string (helloS.extract 0 8)) W := fun W => run_str_to W helloS 8 (by decide)
    have g3 := fun m => run_str (w.drewN m) F A c (bs.take 8) ((hs.rb.take 8).drewN m)
    rw [l8] at g3
    have g4 : ∀ W, (Instr.slice 23 (.slice A n c) (some (.int .i64 8)) none none).run Try.prog W = .ok (.slice (if c = 8 then A else A.map (·.add 8)) (n - 8) (c - 8)) W := fun W => run_slice_from (P := Try.prog) W 23 5 Try.underlying23 infoU8 A n c 8 (by omega) hc
    have SC := Lib.hid (fun m => (hs.cut (k := 8) (by omega)).keep ((Kept.refl noneS w).drewN m) (fun _ _ _ q => q.elim))
    generalize (if c = 8 then A else A.map (·.add 8)) = A' at g4 SC
    have h2 := hx 8 (by decide)
    generalize helloS.extract 0 8 = S2 at g2 h2
    have hd : (bs.take 8 == S2.toList) = true → bs.take 8 = helloBs.take bs.length := fun q => by rw [ht.2, ← h2]; exact eq_of_beq q
    have hd' : (bs.take 8 == S2.toList) = false → bs.take 8 ≠ helloBs.take bs.length := fun q e => by rw [ht.2, ← h2] at e; rw [e] at q; simp at q
    have hlen : ¬ bs.length < 8 := by omega
    have HD := Lib.hid hd
    have HD' := Lib.hid hd'
    clear hd hd' h2 hx hb hs hn ht l8 HB HS
    rcases q : (bs.take 8 == S2.toList) with _ | _
    · have hr := not40.out (HD'.out q)
      have HR := Lib.hid hr
      clear hr
      go_enter Try.func16, Try.ntmps16
      go_wp2
      go_quiet (fail)
      go_wp2
      exact stays.out _ _ ⟨40, HR.out, rfl⟩ ((Kept.refl _ _).drewN _)
    · have hr := yes.out (HD.out q) hlen
      have HR := Lib.hid hr
      clear hr
      go_enter Try.func16, Try.ntmps16
      go_wp2
      go_quiet (fail)
      go_wp2
      exact goes.out _ HR.out _ _ _ (SC.out _)
  · have ht := hello_take bs n (by omega)
    have g1 := fun W => run_slice_to W A n c n hc
    have g2 : ∀ W, (Instr.slice 9 (.string ⟨#[65, 77, 81, 80, 0, 0, 9, 1]⟩) none (some (.int .i64 (n : Int))) none).run Try.prog W = .ok (.string (helloS.extract 0 n)) W := fun W => run_str_to W helloS n (show n ≤ 8 by omega)
    have g3 := fun m => run_str (w.drewN m) F A c bs (hs.rb.drewN m)
    rw [← hn] at g3
    have h2 := hx n (by omega)
    have htt : bs.take 8 = bs := List.take_of_length_le (by omega)
    generalize helloS.extract 0 n = S2 at g2 h2
    have hd : (bs == S2.toList) = true → bs.take 8 = helloBs.take bs.length := fun q => by rw [ht.2, ← h2, htt]; exact eq_of_beq q
    have hd' : (bs == S2.toList) = false → bs.take 8 ≠ helloBs.take bs.length := fun q e => by rw [ht.2, ← h2, htt] at e; rw [e] at q; simp at q
    have HD := Lib.hid hd
    have HD' := Lib.hid hd'
    have hnl : n < 8 → bs.length < 8 := fun h => by omega
    have HNL := Lib.hid hnl
    have HN := Lib.hid hn
    clear hd hd' h2 hx hb ht htt HB HS hnl hn
    rcases q : (bs == S2.toList) with _ | _
    · have hr := not40.out (HD'.out q)
      have HR := Lib.hid hr
      clear hr hs
      go_enter Try.func16, Try.ntmps16
      go_wp2
      go_quiet (fail)
      go_wp2
      exact stays.out _ _ ⟨40, HR.out, rfl⟩ ((Kept.refl _ _).drewN _)
    · by_cases hl : n < 8
      · have hr := notOk.out (HD.out q) (HNL.out hl)
        have HR := Lib.hid hr
        clear hr hs
        go_enter Try.func16, Try.ntmps16
        go_wp2
        go_quiet (fail)
        go_wp2
        exact stays.out _ _ ⟨0, HR.out, rfl⟩ ((Kept.refl _ _).drewN _)
      · have h8' : n = 8 := by omega
        have hr := yes.out (HD.out q) (by have := HN.out; omega)
        have g4 : ∀ W, (Instr.slice 23 (.slice A n c) (some (.int .i64 (n : Int))) none none).run Try.prog W = .ok (.slice (if c = n then A else A.map (·.add n)) (n - n) (c - n)) W := fun W => run_slice_from (P := Try.prog) W 23 5 Try.underlying23 infoU8 A n c n (by omega) hc
        have SC : Hid (∀ m, Seg (w.drewN m) F (if c = n then A else A.map (·.add n)) (n - n) (c - n) (bs.drop 8)) := Lib.hid (fun m => by
          rw [← h8']
          exact (hs.cut (k := n) (by omega)).keep ((Kept.refl noneS w).drewN m) (fun _ _ _ q => q.elim))
        generalize (if c = n then A else A.map (·.add n)) = A' at g4 SC
        clear h8'
        generalize n - n = n0 at g4 SC
        have HR := Lib.hid hr
        clear hr hs
        go_enter Try.func16, Try.ntmps16
        go_wp2
        go_quiet (fail)
        go_wp2
        exact goes.out _ HR.out _ _ _ (SC.out _)

end Go.Proofs.Ytkkfifocilnbkaa
