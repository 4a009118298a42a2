/-
  warrenref04.Parser.Next.
-/
import Derived.Test.YtkkfifocilnbkaaRefPar
namespace Go.Proofs.Ytkkfifocilnbkaa
open Go.RowKit

theorem run_slice_mid (w : World) (A : Option Addr) (n c lo hi : Nat) (h1 : lo ≤ hi) (h2 : hi ≤ c) : (Instr.slice 23 (.slice A n c) (some (.int .i64 (lo : Int))) (some (.int .i64 (hi : Int))) none).run Try.prog w = .ok (.slice (if c = lo then A else A.map (·.add lo)) (hi - lo) (c - lo)) w := by
  obtain ⟨i, hi0, _, hs, _⟩ := info_parts infoU8
  have h3 : (lo : Int) ≤ (hi : Int) := by omega
  have h4 : (hi : Int) ≤ (c : Int) := by omega
  simp [Instr.slice, run_underlying Try.underlying23, Instr.sliceBounds, run_sliceBound, sizeOf, typeInfo, hi0, hs, h1, h2, h3, h4]

theorem refValN (A : Option Addr) (c n v : Nat) (bs : List UInt8) (F : Nat → Prop) (w : World) (hb : RB w F A bs) (hn : bs.length ≤ 4) (hl : bs.length = n) (hv : beNat bs = v) :
    Calls Try.prog 39 #[.slice A n c] w fun e w' => e = .returned (.int .i64 (v : Int)) ∧ w = w' := by
  have hx : beNat bs < 4294967296 := beNat_lt_of (k := 4) hn
  have h := refVal A c n bs F w hb (by omega) hl
  rw [hv, ← wrap64_eq, show wrap64 (v : Int) = (v : Int) by unfold wrap64; omega] at h
  exact h

theorem refCopyN (A : Option Addr) (c n : Nat) (xs : List UInt8) (hl : xs.length = n) (F : Nat → Prop) (w : World) (hx : RB w F A xs) (hn : xs.length ≤ 140737488351232) :
    Calls Try.prog 40 #[.slice A n c] w fun e w' => ∃ A' c', e = .returned (.slice A' n c') ∧ OB w' (w.heap.size ≤ ·) (.slice A' n c') xs ∧ Kept noneS w w' := by
  subst hl
  exact refCopy A c xs F w hx hn

def RNextPost (w : World) (F : Nat → Prop) (p : Nat) (mx : Int) (r : NextR) (e : Ending) (w' : World) : Prop :=
  ∃ A c, e = .returned (.tuple #[.agg #[.int .i64 r.t, .int .i64 r.ch, .slice A r.pl.length c], .bool r.ok, .int .i64 r.err]) ∧ OB w' (w.heap.size ≤ ·) (.slice A r.pl.length c) r.pl ∧ RPAt w' F p r.rest mx ∧ Kept F w w'

theorem kept_q3 (w : World) (q : Nat) (x y z : Value) : Kept (· = q) w (((w.setCell ⟨q, 0, none⟩ x).setCell ⟨q, 1, none⟩ y).setCell ⟨q, 2, none⟩ z) :=
  (((Kept.refl (· = q) w).setCell (p := ⟨q, 0, none⟩) (fun _ => rfl) x).setCell (p := ⟨q, 1, none⟩) (fun _ => rfl) y).setCell (p := ⟨q, 2, none⟩) (fun _ => rfl) z

theorem far3r {w : World} {q b i : Nat} (h : q ≠ b) (x y z : Value) : (((w.setCell ⟨q, 0, none⟩ x).setCell ⟨q, 1, none⟩ y).setCell ⟨q, 2, none⟩ z).cell? ⟨b, i, none⟩ = w.cell? ⟨b, i, none⟩ :=
  World.cell?_of_block (w := w) (a := ⟨b, i, none⟩) (((Below.heap_setCell _ ⟨q, 2, none⟩ z b (fun e => h e.symm)).trans (Below.heap_setCell _ ⟨q, 1, none⟩ y b (fun e => h e.symm))).trans (Below.heap_setCell _ ⟨q, 0, none⟩ x b (fun e => h e.symm)))

theorem rNot {w wb : World} {F : Nat → Prop} {p q : Nat} {mx er : Int} {bs : List UInt8} (hq : w.heap.size ≤ q) (hp : p < w.heap.size) (hP : RPAt wb (fun k => F k ∧ k < w.heap.size) p bs mx) (hk : Kept noneS w wb) :
    RNextPost w F p mx (.not er bs) (.returned (.tuple #[.agg #[.int .i64 0, .int .i64 0, .slice none 0 0], .bool false, .int .i64 er])) (((wb.setCell ⟨q, 0, none⟩ (.int .i64 0)).setCell ⟨q, 1, none⟩ (.int .i64 0)).setCell ⟨q, 2, none⟩ (.slice none 0 0)) := by
  have kq := kept_q3 wb q (.int .i64 0) (.int .i64 0) (.slice none 0 0)
  have h1 := hP.keep kq (fun k _ a b => by omega)
  obtain ⟨h2, A, c, h3, h4⟩ := h1
  exact ⟨none, 0, rfl, Own.nil _ _ _ _, ⟨h2.1, A, c, h3, Own.mono h4 (fun k _ a => a.1)⟩, (hk.mono (S' := F) (fun _ _ q => q.elim)).trans2 kq (fun k a b => by omega)⟩

set_option maxHeartbeats 4000000 in
set_option maxRecDepth 100000 in
theorem refNext (mx : Int) (hm1 : -9223372036854775808 ≤ mx) (hm2 : mx ≤ 9223372036854775807) (w : World) (F : Nat → Prop) (p : Nat) (bs : List UInt8) (h : RPAt w F p bs mx) (hbl : bs.length ≤ 140737488351232) (hF : ∀ k, w.heap.size ≤ k → F k) :
    Calls Try.prog 21 #[.pointer (some ⟨p, 0, none⟩)] w (RNextPost w F p mx (nextOf bs mx)) := by
  obtain ⟨r, HR⟩ : ∃ r, Hid (nextOf bs mx = r) := ⟨_, Lib.hid rfl⟩
  rw [HR.out]
  have HF := Lib.hid hF
  obtain ⟨hp, A, c, hb, hs⟩ := h
  have hpw := hb.lt
  have hcap := OB.cap hs
  have ka : Kept noneS w ((w.alloc (.cells #[.int .i64 0, .int .i64 0, .slice none 0 0] 25)).alloc (.cells #[.int .i64 0, .int .i64 0, .slice none 0 0] 25)) := ((Kept.refl noneS w).alloc _).alloc _
  have hb1 := hb.keep ka (fun q => q)
  have hs1 := Own.keep0 (Own.mono hs (G := fun k => F k ∧ k < w.heap.size) (fun k a q => ⟨q, a⟩)) ka (fun _ _ _ q => q.elim)
  have BQ := Lib.hid ((Blk.new w 25 #[.int .i64 0, .int .i64 0, .slice none 0 0]).alloc (.cells #[.int .i64 0, .int .i64 0, .slice none 0 0] 25))
  have BN := Lib.hid (Blk.new (w.alloc (.cells #[.int .i64 0, .int .i64 0, .slice none 0 0] 25)) 25 #[.int .i64 0, .int .i64 0, .slice none 0 0])
  have e1 : (w.alloc (.cells #[.int .i64 0, .int .i64 0, .slice none 0 0] 25)).heap.size = w.heap.size + 1 := by simp
  rw [e1] at BN
  have hz : w.heap.size + 1 < ((w.alloc (.cells #[.int .i64 0, .int .i64 0, .slice none 0 0] 25)).alloc (.cells #[.int .i64 0, .int .i64 0, .slice none 0 0] 25)).heap.size := by simp
  have HP := Lib.hid hb1
  have HO := Lib.hid hs1
  have KA := Lib.hid ka
  clear hb hs hb1 hs1 ka hF e1
  go_enter Try.func21, Try.ntmps21
  go_upto_region 2 with (fail)
  generalize (w.alloc (.cells #[.int .i64 0, .int .i64 0, .slice none 0 0] 25)).alloc (.cells #[.int .i64 0, .int .i64 0, .slice none 0 0] 25) = wb at BQ BN hz HP HO KA ⊢
  generalize hq1 : w.heap.size + 1 = q1 at BN hz ⊢
  generalize hq : w.heap.size = q at BQ hpw ⊢
  have hqq : q ≠ q1 := by omega
  have hqp : p < q := hpw
  have HQ := Lib.hid hq
  have HQ1 := Lib.hid hq1
  have hq1z : q < q1 := by omega
  clear hq hq1
  have p0 : wb.cell? ⟨p, 0, none⟩ = some (.slice A bs.length c) := HP.out.cell 0
  have p1 : wb.cell? ⟨p, 1, none⟩ = some (.int .i64 mx) := HP.out.cell 1
  have n0 : wb.cell? ⟨q1, 0, none⟩ = some (.int .i64 0) := BN.out.cell 0
  have n1 : wb.cell? ⟨q1, 1, none⟩ = some (.int .i64 0) := BN.out.cell 1
  have n2 : wb.cell? ⟨q1, 2, none⟩ = some (.slice none 0 0) := BN.out.cell 2
  have b0 : wb.cell? ⟨q, 0, none⟩ = some (.int .i64 0) := BQ.out.cell 0
  have b1 : wb.cell? ⟨q, 1, none⟩ = some (.int .i64 0) := BQ.out.cell 1
  have b2 : wb.cell? ⟨q, 2, none⟩ = some (.slice none 0 0) := BQ.out.cell 2
  have f0 := BQ.out.frozen 0
  have f1 := BQ.out.frozen 1
  have f2 := BQ.out.frozen 2
  have PT : Hid (RPAt wb (fun k => F k ∧ k < w.heap.size) p bs mx) := Lib.hid ⟨⟨hp, by have := HQ.out; omega⟩, A, c, HP.out, HO.out⟩
  have NOT : Hid (∀ er : Int, r = .not er bs → RNextPost w F p mx r (.returned (.tuple #[.agg #[.int .i64 0, .int .i64 0, .slice none 0 0], .bool false, .int .i64 er])) (((wb.setCell ⟨q, 0, none⟩ (.int .i64 0)).setCell ⟨q, 1, none⟩ (.int .i64 0)).setCell ⟨q, 2, none⟩ (.slice none 0 0))) := Lib.hid (by
    rintro er rfl
    exact rNot (by have := HQ.out; omega) (by have := HQ.out; omega) PT.out KA.out)
  have hbl63 : bs.length ≤ 9223372036854775800 := by omega
  rcases Nat.eq_zero_or_pos bs.length with h0 | h0
  · have hr : r = .not 0 bs := by rw [← HR.out]; unfold nextOf; rw [if_neg (by rw [h0]; simp), if_pos (by omega)]
    have hN := Lib.hid (NOT.out 0 hr)
    rw [h0] at p0
    clear hr NOT HR h0
    go_wp2
    refine bodyPost_ret (results_cell_tmp2 rfl _ _ q 25 _ _ _ rfl (((BQ.out.set_ 0 _).set_ 1 _).set_ 2 _) Try.underlying25 rfl frow_info) rfl ?_
    exact hN.out
  · obtain ⟨g, o, rfl, hgF, hcell⟩ := RB.at_ (OB.rb HO.out).2 h0
    rw [Nat.add_zero] at hcell
    have hb0 : bs[0] = bs.headD 0 := by cases bs with | nil => simp at h0 | cons x l => rfl
    rw [hb0] at hcell
    have HB0 := Lib.hid hb0
    clear hb0
    have hz0 : ((bs.length : Int) == 0) = false := by simp; intro e; rw [e] at h0; simp at h0
    rcases hk : knownB ((bs.headD 0).toNat : Int) with _ | _
    · have hr : r = .not 40 bs := by rw [← HR.out]; unfold nextOf; rw [if_pos ⟨h0, hk⟩]
      have hN := Lib.hid (NOT.out 40 hr)
      have qs : (((bs.headD 0).toNat : Int) != 1) = true ∧ (((bs.headD 0).toNat : Int) != 2) = true ∧ (((bs.headD 0).toNat : Int) != 3) = true ∧ (((bs.headD 0).toNat : Int) != 8) = true := by
        unfold knownB at hk
        simp only [Bool.or_eq_false_iff] at hk
        simp only [bne, hk]
        decide
      clear hr NOT HR hk
      generalize bs.headD 0 = x at hcell qs HB0
      obtain ⟨q1_, q2_, q3_, q4_⟩ := qs
      go_wp2
      refine bodyPost_ret (results_cell_tmp2 rfl _ _ q 25 _ _ _ rfl (((BQ.out.set_ 0 _).set_ 1 _).set_ 2 _) Try.underlying25 rfl frow_info) rfl ?_
      exact hN.out
    · have hk8 : ((bs.headD 0).toNat : Int) = 1 ∨ ((bs.headD 0).toNat : Int) = 2 ∨ ((bs.headD 0).toNat : Int) = 3 ∨ ((bs.headD 0).toNat : Int) = 8 := by unfold knownB at hk; simpa [or_assoc] using hk
      have qs : ∀ y : Int, y = 1 ∨ y = 2 ∨ y = 3 ∨ y = 8 → (Hid (y = 1) ∧ (y != 1) = false) ∨ (Hid (y = 2) ∧ (y != 1) = true ∧ (y != 2) = false) ∨ (Hid (y = 3) ∧ (y != 1) = true ∧ (y != 2) = true ∧ (y != 3) = false) ∨ (Hid (y = 8) ∧ (y != 1) = true ∧ (y != 2) = true ∧ (y != 3) = true ∧ (y != 8) = false) := by
        rintro y (rfl | rfl | rfl | rfl)
        · exact .inl ⟨Lib.hid rfl, by decide⟩
        · exact .inr (.inl ⟨Lib.hid rfl, by decide⟩)
        · exact .inr (.inr (.inl ⟨Lib.hid rfl, by decide⟩))
        · exact .inr (.inr (.inr ⟨Lib.hid rfl, by decide⟩))
      have QS := Lib.hid (qs _ hk8)
      have HKn := Lib.hid hk
      clear hk hk8 qs
      generalize hx : bs.headD 0 = x at hcell QS HKn HB0
      have HX := Lib.hid hx
      clear hx
      go_upto_region 5 with (fail)
      go_cut [6, 38] from 24 to 38 (fun v t wx => v = .int .u8 (x.toNat : Int) ∧ t = .bool false ∧ wb = wx)
      case first =>
        rcases QS.out with ⟨y, q1_⟩ | ⟨y, q1_, q2_⟩ | ⟨y, q1_, q2_, q3_⟩ | ⟨y, q1_, q2_, q3_, q4_⟩
        all_goals
          go_wp2_with fail
          go_meet
          case rel => exact ⟨by first | rfl | rw [y.out], rfl, rfl⟩
      case rest =>
        obtain ⟨rfl, rfl, rfl⟩ := hcut
        by_cases h7 : bs.length < 7
        · have hr : r = .not 0 bs := by rw [← HR.out]; unfold nextOf; rw [if_neg (by rw [HX.out, HKn.out]; simp), if_pos h7]
          have hN := Lib.hid (NOT.out 0 hr)
          clear hr NOT HR QS
          go_wp2
          refine bodyPost_ret (results_cell_tmp2 rfl _ _ q 25 _ _ _ rfl (((BQ.out.set_ 0 _).set_ 1 _).set_ 2 _) Try.underlying25 rfl frow_info) rfl ?_
          exact hN.out
        · have hnext : nextOf bs mx = (if max mx 8 - 8 < (hsize bs : Int) then .not 42 bs else if bs.length < 8 + hsize bs then .not 0 bs else if bs.getD (7 + hsize bs) 0 ≠ 206 then .not 41 bs else ⟨hkind bs, hchan bs, (bs.drop 7).take (hsize bs), true, 0, bs.drop (8 + hsize bs)⟩) := by
            rw [nextOf, if_neg (by rw [HX.out, HKn.out]; simp), if_neg h7]
          rw [hnext] at HR
          clear hnext
          have hkx : hkind bs = x.toNat := by
            rw [← HX.out]
            cases bs with
            | nil => simp at h0
            | cons a l => simp [hkind, beNat]
          rw [hkx] at HR
          have rb := (OB.rb HO.out).2
          have gV : ∀ W, (Instr.slice 23 (.slice (some ⟨g, o, none⟩) bs.length c) (some (.int .i64 3)) (some (.int .i64 7)) none).run Try.prog W = .ok (.slice (some ⟨g, o + 3, none⟩) 4 (c - 3)) W := fun W => by
            have h := run_slice_mid W (some ⟨g, o, none⟩) bs.length c 3 7 (by decide) (by omega)
            rw [if_neg (by omega), Option.map_some, Addr.add_lit] at h
            exact h
          have rbV : RB wb (fun k => F k ∧ k < w.heap.size) (some ⟨g, o + 3, none⟩) ((bs.drop 3).take 4) := by
            have h := RB.take (RB.cut rb (k := 3) (cap := c) hcap) 4
            rw [if_neg (by omega), Option.map_some, Addr.add_lit] at h
            exact h
          have lV : ((bs.drop 3).take 4).length = 4 := by simp; omega
          obtain ⟨sz, hsz⟩ : ∃ sz, hsize bs = sz := ⟨_, rfl⟩
          have hszb : sz < 4294967296 := by rw [← hsz]; exact beNat_lt_of (k := 4) (by omega)
          rw [hsz] at HR
          have HSZ := Lib.hid hsz
          have RV := Lib.hid rbV
          have RBS := Lib.hid rb
          clear hkx rb rbV hsz
          obtain ⟨room, hroom⟩ : ∃ room : Int, max mx 8 - 8 = room := ⟨_, rfl⟩
          rw [hroom] at HR
          have hroom0 : 0 ≤ room := by omega
          have hroomb : room ≤ 9223372036854775807 := by omega
          have HRoom := Lib.hid hroom
          clear hroom
          go_upto_if 51 with (fail)
          go_cut [7] from 52 to 56 (fun v wx => v = .int .i64 room ∧ wb = wx)
          case first =>
            by_cases hmx : 8 < mx
            · have hrm : mx - 8 = room := by have := HRoom.out; omega
              have HRM := Lib.hid hrm
              clear hrm
              go_wp2_with fail
              go_meet
              case rel => exact ⟨by rw [← HRM.out], rfl⟩
            · have hrm : room = 0 := by have := HRoom.out; omega
              have HRM := Lib.hid hrm
              clear hrm
              go_wp2_with fail
              go_meet
              case rel => exact ⟨by rw [HRM.out], rfl⟩
          case rest =>
            obtain ⟨rfl, rfl⟩ := hcut
            go_wp2_with fail
            refine (refValN (some ⟨g, o + 3, none⟩) (c - 3) 4 sz ((bs.drop 3).take 4) _ wb RV.out (by omega) lV HSZ.out).mono ?_
            rintro e w' ⟨rfl, rfl⟩
            clear gV
            have LV := Lib.hid lV
            clear lV
            by_cases hs1 : room < (sz : Int)
            · rw [if_pos hs1] at HR
              have hN := Lib.hid (NOT.out 42 HR.out.symm)
              clear NOT HR QS
              go_wp2
              refine bodyPost_ret (results_cell_tmp2 rfl _ _ q 25 _ _ _ rfl (((BQ.out.set_ 0 _).set_ 1 _).set_ 2 _) Try.underlying25 rfl frow_info) rfl ?_
              exact hN.out
            · rw [if_neg hs1] at HR
              by_cases hs2 : bs.length < 8 + sz
              · rw [if_pos hs2] at HR
                have hN := Lib.hid (NOT.out 0 HR.out.symm)
                clear NOT HR QS
                go_wp2
                refine bodyPost_ret (results_cell_tmp2 rfl _ _ q 25 _ _ _ rfl (((BQ.out.set_ 0 _).set_ 1 _).set_ 2 _) Try.underlying25 rfl frow_info) rfl ?_
                exact hN.out
              · rw [if_neg hs2] at HR
                have hi7 : sz + 7 < bs.length := by omega
                obtain ⟨g', o', hA', _, hcell7⟩ := RB.at_ RBS.out hi7
                injection hA' with hA'
                injection hA' with e1 e2
                subst e1 e2
                have hgd : bs.getD (7 + sz) 0 = bs[sz + 7] := by rw [Nat.add_comm 7 sz]; simp [List.getD, List.getElem?_eq_getElem hi7]
                rw [hgd] at HR
                generalize bs[sz + 7] = y at hcell7 HR hgd
                clear hgd
                by_cases hy : y ≠ 206
                · rw [if_pos hy] at HR
                  have hN := Lib.hid (NOT.out 41 HR.out.symm)
                  have hy2 : ((y.toNat : Int) != 206) = true := by
                    simp only [bne_iff_ne, ne_eq]
                    intro e
                    exact hy (UInt8.toNat_inj.1 (show y.toNat = 206 by omega))
                  clear NOT HR QS hy
                  go_wp2
                  refine bodyPost_ret (results_cell_tmp2 rfl _ _ q 25 _ _ _ rfl (((BQ.out.set_ 0 _).set_ 1 _).set_ 2 _) Try.underlying25 rfl frow_info) rfl ?_
                  exact hN.out
                · rw [if_neg hy] at HR
                  obtain rfl : y = 206 := by simpa using hy
                  have hcell7' : wb.cell? ⟨g, o + (sz + 7), none⟩ = some (.int .u8 206) := hcell7
                  clear NOT QS hy hcell7 hcell n0 n1 n2 b0 b1 b2 f0 f1 f2 p1
                  have gA : ∀ W, (Instr.slice 23 (.slice (some ⟨g, o, none⟩) bs.length c) (some (.int .i64 1)) (some (.int .i64 3)) none).run Try.prog W = .ok (.slice (some ⟨g, o + 1, none⟩) 2 (c - 1)) W := fun W => by
                    have h := run_slice_mid W (some ⟨g, o, none⟩) bs.length c 1 3 (by decide) (by omega)
                    rw [if_neg (by omega), Option.map_some, Addr.add_lit] at h
                    exact h
                  have gB : ∀ W, (Instr.slice 23 (.slice (some ⟨g, o, none⟩) bs.length c) (some (.int .i64 7)) (some (.int .i64 ((sz : Int) + 7))) none).run Try.prog W = .ok (.slice (some ⟨g, o + 7, none⟩) sz (c - 7)) W := fun W => by
                    have h := run_slice_mid W (some ⟨g, o, none⟩) bs.length c 7 (sz + 7) (by omega) (by omega)
                    rw [if_neg (by omega), Option.map_some, Addr.add_lit, Nat.add_sub_cancel] at h
                    exact h
                  have RA : Hid (RB wb (fun k => F k ∧ k < w.heap.size) (some ⟨g, o + 1, none⟩) ((bs.drop 1).take 2)) := Lib.hid (by
                    have h := RB.take (RB.cut RBS.out (k := 1) (cap := c) hcap) 2
                    rw [if_neg (by omega), Option.map_some, Addr.add_lit] at h
                    exact h)
                  have RP : Hid (RB wb (fun k => F k ∧ k < w.heap.size) (some ⟨g, o + 7, none⟩) ((bs.drop 7).take sz)) := Lib.hid (by
                    have h := RB.take (RB.cut RBS.out (k := 7) (cap := c) hcap) sz
                    rw [if_neg (by omega), Option.map_some, Addr.add_lit] at h
                    exact h)
                  have LA : Hid (((bs.drop 1).take 2).length = 2) := Lib.hid (by simp; omega)
                  have LP : Hid (((bs.drop 7).take sz).length = sz) := Lib.hid (by simp; omega)
                  obtain ⟨cn, hcn⟩ : ∃ cn, hchan bs = cn := ⟨_, rfl⟩
                  rw [hcn] at HR
                  have HCN := Lib.hid hcn
                  clear hcn
                  have hx8 := x.toNat_lt
                  go_upto_region 20 with (fail)
                  have hw7 : IntKind.i64.wrap ((sz : Int) + 7) = (sz : Int) + 7 := IntWalk.i64_in _ (by omega)
                  have hwx : wrap64 (x.toNat : Int) = (x.toNat : Int) := wrapB x
                  have hwx2 : IntKind.i64.wrap (x.toNat : Int) = (x.toNat : Int) := by rw [← wrap64_eq]; exact wrapB x
                  have ne1 : wb.heap.size ≠ p := by omega
                  go_cut [10] from 87 to 103 (fun v wx => ∃ pi A2 c2, v = .pointer (some ⟨pi, 0, none⟩) ∧ Blk wx pi 25 #[.int .i64 (x.toNat : Int), .int .i64 (cn : Int), .slice A2 sz c2] ∧ OB wx (fun k => q1 < k ∧ k ≠ pi ∧ k < wx.heap.size) (.slice A2 sz c2) ((bs.drop 7).take sz) ∧ q1 < pi ∧ Kept noneS wb wx)
                  case first =>
                    go_region_held3 (fun W => W.cell? ⟨p, 0, none⟩ = some (.slice (some ⟨g, o, none⟩) bs.length c))
                      (first | exact p0 | exact d0 | go_keep | exact (far3r ne1 _ _ _).trans d0)
                      (first
                        | (go_at_call 39; refine (refValN (some ⟨g, o + 1, none⟩) (c - 1) 2 cn ((bs.drop 1).take 2) _ _ (RA.out.still (by first | exact (Kept.refl _ _).drew | exact ((Kept.refl _ _).alloc _).drew | exact KB.out | exact KB.out.alloc _)) (by have := LA.out; omega) LA.out HCN.out).mono ?_; rintro e w' ⟨rfl, rfl⟩)
                        | (go_at_call 40; refine (refCopyN (some ⟨g, o + 7, none⟩) (c - 7) sz ((bs.drop 7).take sz) LP.out _ _ (RP.out.still (by first | exact (Kept.refl _ _).drew | exact ((Kept.refl _ _).alloc _).drew)) (by have := LP.out; omega)).mono ?_; rintro e w2 ⟨A2, c2, rfl, o2, k2⟩; (try (have bv := Blk.keep (Blk.drew (Blk.new wb 25 #[.int .i64 0, .int .i64 0, .slice none 0 0])) k2 (fun q => q.elim); have v0 : w2.cell? ⟨wb.heap.size, 0, none⟩ = some (.int .i64 0) := bv.cell 0; have v1 : w2.cell? ⟨wb.heap.size, 1, none⟩ = some (.int .i64 0) := bv.cell 1; have v2 : w2.cell? ⟨wb.heap.size, 2, none⟩ = some (.slice none 0 0) := bv.cell 2; have v3 := bv.frozen 0; have v4 := bv.frozen 1; have v5 := bv.frozen 2; have BV := Lib.hid bv; clear bv)); have kA : Kept noneS wb w2 := (by first | exact (((Kept.refl noneS wb).alloc _).drew).trans k2 | exact ((Kept.refl noneS wb).drew).trans k2); have d0 : w2.cell? ⟨p, 0, none⟩ = some (.slice (some ⟨g, o, none⟩) bs.length c) := (HP.out.keep kA (fun q => q.elim)).cell 0; have O2 := Lib.hid o2; have KB := Lib.hid kA; have zA := kA.size; clear kA o2 k2))
                    all_goals
                      go_wp2_with fail
                      go_meet
                      case rel =>
                        first
                          | exact ⟨w2.heap.size, A2, c2, rfl, Blk.new _ _ _, Own.mono (Own.alloc (Own.mono O2.out (G := fun k => wb.heap.size ≤ k ∧ k < w2.heap.size) (fun k a b => ⟨b, a⟩)) _) (fun k a b => ⟨by omega, by omega, a⟩), by omega, KB.out.alloc _⟩
                          | exact ⟨wb.heap.size, A2, c2, rfl, (((BV.out.set_ 0 _).set_ 1 _).set_ 2 _), Own.mono (Own.keep O2.out (kept_q3 w2 wb.heap.size _ _ _) (fun k _ a b => by simp at a; omega)) (fun k a b => ⟨by simp at b; omega, by simp at b; omega, a⟩), by omega, KB.out.trans2 (kept_q3 w2 wb.heap.size _ _ _) (fun k a b => by omega)⟩
                  case rest =>
                    obtain ⟨pi, A2, c2, rfl, bI, oI, hpi, kI⟩ := hcut
                    have BI := Lib.hid bI
                    have OI := Lib.hid oI
                    have KI := Lib.hid kI
                    have BQx := Lib.hid (BQ.out.keep kI (fun q => q))
                    have hpx := bI.lt
                    have PX : Hid (RPAt wc (fun k => (F k ∧ k < q) ∨ wc.heap.size ≤ k) p bs mx) := Lib.hid (by
                      have h1 := PT.out.keep kI (fun _ _ _ q => q.elim)
                      obtain ⟨h2, A, c, h3, h4⟩ := h1
                      exact ⟨.inl ⟨h2.1, by have := HQ.out; omega⟩, A, c, h3, Own.mono h4 (fun k _ a => .inl ⟨a.1, by have := HQ.out; omega⟩)⟩)
                    clear bI oI kI gA gB p0 ne1 hw7 hwx hwx2 hcell7'
                    have zI := KI.out.size
                    have dr := refDrop (sz + 8) mx wc _ p bs PX.out (by omega) hbl (fun k a => .inr a)
                    rw [show ((sz + 8 : Nat) : Int) = (sz : Int) + 8 by omega] at dr
                    have DR := Lib.hid dr
                    clear dr
                    go_wp2_with fail
                    refine DR.out.mono ?_
                    rintro e w4 ⟨⟨v4, rfl⟩, p4, k4⟩
                    have B4 := Lib.hid (BI.out.keep k4 (fun a => by omega))
                    have Q4 := Lib.hid (BQx.out.keep k4 (fun a => by omega))
                    have O4 := Lib.hid (Own.keep OI.out k4 (fun k _ a b => by omega))
                    have PP4 := Lib.hid p4
                    have K4 := Lib.hid k4
                    have i0 : w4.cell? ⟨pi, 0, none⟩ = some (.int .i64 (x.toNat : Int)) := B4.out.cell 0
                    have i1 : w4.cell? ⟨pi, 1, none⟩ = some (.int .i64 (cn : Int)) := B4.out.cell 1
                    have i2 : w4.cell? ⟨pi, 2, none⟩ = some (.slice A2 sz c2) := B4.out.cell 2
                    have j0 : w4.cell? ⟨q, 0, none⟩ = some (.int .i64 0) := Q4.out.cell 0
                    have j1 : w4.cell? ⟨q, 1, none⟩ = some (.int .i64 0) := Q4.out.cell 1
                    have j2 : w4.cell? ⟨q, 2, none⟩ = some (.slice none 0 0) := Q4.out.cell 2
                    have f0 := Q4.out.frozen 0
                    have f1 := Q4.out.frozen 1
                    have f2 := Q4.out.frozen 2
                    clear p4 k4 DR
                    go_wp2
                    refine bodyPost_ret (results_cell_tmp2 rfl _ _ q 25 _ _ _ rfl (((Q4.out.set_ 0 _).set_ 1 _).set_ 2 _) Try.underlying25 rfl frow_info) rfl ?_
                    have kq := kept_q3 w4 q (.int .i64 (x.toNat : Int)) (.int .i64 (cn : Int)) (.slice A2 sz c2)
                    have lp := LP.out
                    rw [← HR.out]
                    refine ⟨A2, c2, by show _ = Ending.returned (.tuple #[.agg #[_, _, .slice A2 ((bs.drop 7).take sz).length c2], _, _]); rw [lp]; rfl, ?_, ?_, ?_⟩
                    · show OB _ _ (.slice A2 ((bs.drop 7).take sz).length c2) _
                      rw [lp]
                      exact Own.mono (Own.keep O4.out kq (fun k _ a b => by omega)) (fun k _ a => by have := HQ.out; omega)
                    · have h1 := PP4.out.keep kq (fun k a b c => by rcases b with b | b <;> omega)
                      obtain ⟨h2, A, c, h3, h4⟩ := h1
                      show RPAt _ F p (bs.drop (8 + sz)) mx
                      rw [Nat.add_comm 8 sz]
                      refine ⟨hp, A, c, h3, Own.mono h4 (fun k _ a => ?_)⟩
                      rcases a with a | a
                      · exact a.1
                      · exact HF.out k (by have := HQ.out; omega)
                    · refine ((((KA.out.trans KI.out).mono (S' := F) (fun _ _ q => q.elim)).trans2 K4.out (fun k a b => ?_)).trans2 kq (fun k a b => ?_))
                      · rcases b with b | b
                        · exact b.1
                        · have := HQ.out; omega
                      · have := HQ.out; omega

end Go.Proofs.Ytkkfifocilnbkaa
