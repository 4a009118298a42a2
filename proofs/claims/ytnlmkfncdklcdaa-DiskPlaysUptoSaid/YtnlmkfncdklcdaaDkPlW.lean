/-
  The walk of DiskPlays.
-/
import Derived.Test.YtnlmkfncdklcdaaDkStep
import Derived.Test.YtnlmkfncdklcdaaDkSpeaks
import Derived.Test.YtnlmkfncdklcdaaDkRef7
import Derived.Test.YtnlmkfncdklcdaaDkRef8
import Derived.Test.YtnlmkfncdklcdaaDkSeen
import Derived.Deep.RegionWith
namespace Go.Proofs.Ytnlmkfncdklcdaa
open Go.RowKit

theorem RAt.pcell {w : World} {G : Nat → Prop} {q : Nat} {s : DiskS} (h : RAt w G q s) : ∃ Ap cp, w.cell? ⟨q, 1, none⟩ = some (.slice Ap s.pend.length cp) := by
  obtain ⟨tag, fv, pv, l, hG, ho⟩ := h
  obtain ⟨Ap, cp, rfl, _⟩ := Own.form ho.prow
  exact ⟨Ap, cp, ho.blk.cell 1⟩
theorem RAt.fcell {w : World} {G : Nat → Prop} {q : Nat} {s : DiskS} (h : RAt w G q s) : ∃ Af cf, w.cell? ⟨q, 0, none⟩ = some (.slice Af s.files.length cf) ∧ ∀ j (hj : j < s.files.length), ∃ g, Af = some ⟨g, 0, none⟩ ∧ w.cell? ⟨g, j * 3, none⟩ = some (.string s.files[j].name) := by
  obtain ⟨tag, fv, pv, l, hG, ho⟩ := h
  have hll : l.length = s.files.length := by rw [← ho.fls, List.length_map]
  obtain ⟨Af, cf, rfl, _⟩ := Own.form ho.frow
  refine ⟨Af, cf, ?_, fun j hj => ?_⟩
  · rw [← hll]
    exact ho.blk.cell 0
  · have hj' : j < l.length := by omega
    obtain ⟨g, rfl, _, q0, _⟩ := Own.at3 ho.frow hj'
    refine ⟨g, rfl, q0.trans ?_⟩
    have : (l[j]).1 = s.files[j] := by
      have h3 : (l.map (·.1))[j]'(by simpa using hj') = s.files[j] := by simp only [ho.fls]
      simpa using h3
    show some (Value.string (l[j]).1.name) = _
    rw [this]
theorem sum_used {s : DiskS} (h : DInv s) {M : Int} (hb : s.big ≤ M) (hM : M ≤ 1073741824) : wrap64 (sumF s.files : Int) = s.used := by
  obtain ⟨h1, _, _, h2⟩ := big_parts h hb
  rw [← h.used]
  unfold wrap64
  omega
theorem Both.keep {w w' : World} {B : Nat} {F G : Nat → Prop} {p q : Nat} {s : DiskS} {N : Nat} (h : Both w B F G p q s N) (hk : Kept noneS w w') : Both w' B F G p q s N :=
  ⟨h.d.keep hk (fun _ _ a => a), h.r.keep hk (fun _ _ a => a), h.inv, h.apart, h.f, h.g, Nat.le_trans h.b hk.size⟩
theorem Both.usedD {w : World} {B : Nat} {F G : Nat → Prop} {p q : Nat} {s : DiskS} {N : Nat} (h : Both w B F G p q s N) (W : World) (hk : Kept noneS w W) : Calls Try.prog 17 #[.pointer (some ⟨p, 0, none⟩)] W fun e w' => e = .returned (.int .i64 s.used) ∧ W = w' := diskUsed F p N s W (h.keep hk).d

attribute [local go_sem ↓] append_as

theorem infoBool : (Try.prog.info? 4).map (fun i => (i.zero, i.size, i.bytes)) = some (some (.bool false), 1, 1) := by kernel_rfl
theorem bool_app (w : World) (F : Nat → Prop) (v : Value) (n : Nat) (h : Own w 4 1 F v n (List.replicate n (.bool true))) (hF : ∀ k, w.heap.size ≤ k → F k) (hl : n ≤ 4194304) :
    ∃ A' c' w', (appSem #[38, 38] 38 #[v, .slice (some ⟨w.heap.size, 0, none⟩) 1 1]).run Try.prog (w.alloc (.cells #[.bool true] 4)) = .ok (.slice A' (n + 1) c') w' ∧
      Own w' 4 1 F (.slice A' (n + 1) c') (n + 1) (List.replicate (n + 1) (.bool true)) ∧ Kept (ownS v) w w' := by
  obtain ⟨i0, hi, hz0, hz1, hz2⟩ := info_parts infoBool
  obtain ⟨A', c', w', hrun, g2, g3, g4⟩ := run_app1 (P := Try.prog) w 38 38 4 i0 _ 1 1 Try.underlying38 hi hz0 hz1 hz2 rfl (by decide) F v n _ h #[.bool true] rfl (by simp [Value.oneCell']) (by unfold maxLen; omega) (by omega)
  refine ⟨A', c', w', hrun, ?_, ((Kept.refl (ownS v) w).alloc _).trans g4⟩
  rw [List.replicate_succ']
  refine g2.mono (fun k _ q => ?_)
  rcases q with q | q
  · exact h.2 k q
  · exact hF k (by omega)

set_option maxRecDepth 100000 in
set_option maxHeartbeats 6400000 in
theorem diskPlays_walk (A : Option Addr) (c : Nat) (fs : List FlS) (room : Int) (B : Option Addr) (bc : Nat) (ops : List DOp) (w : World) (h : FlsAt w (· < w.heap.size) A fs) (hl : fs.length + totLen fs ≤ 1048576) (hr : -9223372036854775808 ≤ room ∧ room ≤ 9223372036854775807)
    (ho : Rd w (· < w.heap.size) B (ops.flatMap DOp.cells)) (hg : ∀ o ∈ ops, o.good w) (hb : (ops.map DOp.bulk).sum ≤ 1048576) :
    Calls Try.prog 6 #[.slice A fs.length c, .int .i64 room, .slice B ops.length bc] w fun e w' => e = .returned (.bool true) ∧ Kept noneS w w' := by
  have HX := Lib.hid h
  have HOp := Lib.hid ho
  have HGd := Lib.hid hg
  have HB := Lib.hid hb
  have HR := Lib.hid hr
  have hol : ops.length ≤ 1048576 := Nat.le_trans (by
    have : ∀ l : List DOp, l.length ≤ (l.map DOp.bulk).sum := by
      intro l
      induction l with
      | nil => exact Nat.le_refl _
      | cons x l ih => simp only [List.length_cons, List.map_cons, List.sum_cons, DOp.bulk]; omega
    exact this ops) hb
  clear h ho hg hb hr
  go_enter Try.func6, Try.ntmps6
  go_wp2_with fail
  refine (speaks11 w).mono ?_
  rintro e w1 ⟨rfl, k1⟩
  have K1 := Lib.hid k1
  clear k1
  go_wp2_with fail
  refine (copyFiles A c fs _ w1 (HX.out.still K1.out) (by omega)).mono ?_
  rintro e w2 ⟨A2, c2, rfl, o2, k2⟩
  have O2 := Lib.hid o2
  have K2 := Lib.hid (K1.out.trans k2)
  clear k2 o2
  go_wp2_with fail
  refine (diskOpen A2 c2 fs room _ w2 O2.out.fls (by omega) HR.out).mono ?_
  intro e w3 hp3
  have HP3 := Lib.hid hp3
  have K3 : Hid (Kept noneS w w3) := Lib.hid (K2.out.trans (by
    rcases hp3 with ⟨_, _, k⟩ | ⟨_, _, _, _, _, _, _, k⟩
    · exact k
    · exact k))
  clear hp3
  by_cases he : openErr fs [] = 0
  · rcases HP3.out with ⟨q, _⟩ | ⟨_, p, F, rfl, hd, hF, hasc, _⟩
    · exact absurd he q
    have HE := Lib.hid he
    have HD := Lib.hid hd
    have HF := Lib.hid hF
    have HA := Lib.hid hasc
    clear hd hF hasc he HP3
    go_wp2_with fail
    refine (refOpen A c fs room _ w3 (HX.out.still K3.out) (by omega) HR.out).mono ?_
    rintro e w4 (⟨q, _⟩ | ⟨_, q, G, rfl, hg, hG, k4⟩)
    · exact absurd HE.out q
    have HBo : Hid (Both w4 w.heap.size F G p q (openS fs room) fs.length) := Lib.hid ⟨HD.out.keep k4 (fun _ _ a => a), hg, openS_inv (by omega) HA.out, fun k a b => by have h1 := HD.out.lt k a; have h2 := hG k b; omega, fun k a => by have h1 := HF.out k a; have h2 := K2.out.size; omega, fun k a => by have h1 := hG k a; have h2 := K3.out.size; omega, by have h2 := K3.out.size; have h3 := k4.size; omega⟩
    have K4 := Lib.hid (K3.out.trans k4)
    have G4 := Lib.hid (big_open (room := room) hl)
    clear hg hG k4 HD HF HA
    have hfl : fs.length ≤ 1048576 := by omega
    go_wp2
    go_loopw [45] (fun v wr => ∃ (j : Nat) (F G : Nat → Prop) (s : DiskS) (N : Nat), j ≤ ops.length ∧ v = .int .i64 j ∧ N ≤ fs.length + j ∧ Hid (Both wr w.heap.size F G p q s N) ∧ Hid (s.big ≤ 1048576 + (((ops.take j).map DOp.bulk).sum : Int)) ∧ Hid (Kept noneS w wr)) (fun v _ => ops.length - (intOf v).toNat)
    case atStart => exact ⟨0, F, G, _, fs.length, Nat.zero_le _, rfl, Nat.le_refl _, HBo, Lib.hid (by have := G4.out; simpa using this), K4⟩
    case round =>
      clear HBo G4 K4 F G
      obtain ⟨j, F, G, s, N, hj, rfl, hN, HBo, HBg, HK⟩ := hrel
      by_cases hlt : j < ops.length
      · obtain ⟨g, o, rfl, hgg, d0, d1, d2, d3, d4, d5⟩ := (HOp.out.keep HK.out (fun _ _ _ q => q.elim)).dop hlt
        have hgood := HGd.out ops[j] (List.getElem_mem hlt)
        have HS1 := Lib.hid (sum_takeD DOp.bulk ops j hlt)
        generalize ops[j] = op at d0 d1 d2 d3 d4 d5 hgood HS1
        have HGo := Lib.hid hgood
        have hji : (j : Int) < (ops.length : Int) := by omega
        have hj0 : (0 : Int) ≤ (j : Int) := by omega
        have HK5 : Hid (Kept noneS wr (wr.alloc (.cells #[.int .i64 op.kind, .int .i64 op.n, .string op.name, .slice op.addr op.data.length op.cap, .slice op.fate.addr op.fate.keep.length op.fate.cap, .int .i64 op.fate.tear] 45))) := Lib.hid ((Kept.refl _ _).alloc _)
        have HB5 := Lib.hid (Blk.new wr 45 #[.int .i64 op.kind, .int .i64 op.n, .string op.name, .slice op.addr op.data.length op.cap, .slice op.fate.addr op.fate.keep.length op.fate.cap, .int .i64 op.fate.tear])
        have hbk : op.bulk ≤ 1048576 ∧ ((ops.take j).map DOp.bulk).sum ≤ 1048576 ∧ ((ops.take j).map DOp.bulk).sum + op.bulk ≤ 1048576 := by
          have h2 := sum_takeD_le DOp.bulk ops (j + 1)
          rw [HS1.out] at h2
          have := HB.out
          omega
        clear hgood
        go_upto_region 12 with (fail)
        generalize wr.alloc (.cells #[.int .i64 op.kind, .int .i64 op.n, .string op.name, .slice op.addr op.data.length op.cap, .slice op.fate.addr op.fate.keep.length op.fate.cap, .int .i64 op.fate.tear] 45) = w5 at HK5 HB5 ⊢
        have y0 : w5.cell? ⟨wr.heap.size, 0, none⟩ = some (.int .i64 op.kind) := HB5.out.cell 0
        have y1 : w5.cell? ⟨wr.heap.size, 1, none⟩ = some (.int .i64 op.n) := HB5.out.cell 1
        have y2 : w5.cell? ⟨wr.heap.size, 2, none⟩ = some (.string op.name) := HB5.out.cell 2
        have y3 : w5.cell? ⟨wr.heap.size, 3, none⟩ = some (.slice op.addr op.data.length op.cap) := HB5.out.cell 3
        have y4 : w5.cell? ⟨wr.heap.size, 4, none⟩ = some (.slice op.fate.addr op.fate.keep.length op.fate.cap) := HB5.out.cell 4
        have y5 : w5.cell? ⟨wr.heap.size, 5, none⟩ = some (.int .i64 op.fate.tear) := HB5.out.cell 5
        have hk5 : Kept noneS wr w5.drew := HK5.out.drew
        have hbo5 := HBo.out.keep hk5
        have hop5 : OpAt w5.drew w.heap.size op := ⟨(HGo.out.2.2.1.still HK.out).still hk5, (HGo.out.2.2.2.2.2.2.1.keep HK.out (fun _ _ _ a => a)).keep hk5 (fun _ _ _ a => a), HGo.out.2.2.2.2.2.2.2.2.2, HGo.out.2.2.2.1, HGo.out.2.2.2.2.1⟩
        have hst := step_ok op w5.drew w.heap.size p q F G s N hbo5 hop5 (by have := HBg.out; omega) (by omega)
        unfold DOp.arg at hst
        have HSt := Lib.hid hst
        clear hst hbo5 hop5 hk5
        go_cut [70] from 49 to 70 (fun v wx => v = .bool false ∧ ∃ F' G' s' N', Both wx w.heap.size F' G' p q s' N' ∧ s'.big ≤ s.big + (op.bulk : Int) ∧ N' ≤ N + 1 ∧ Kept (w.heap.size ≤ ·) w5 wx)
        case first =>
          go_region_with (first
            | (go_at_call 23; refine HSt.out.mono ?_; rintro e w6 ⟨rfl, F6, G6, s6, N6, b6, g6, n6, k6⟩; obtain ⟨Ap, cp, p1⟩ := b6.r.pcell; have B6 := Lib.hid b6; have SU6 := Lib.hid (sum_used b6.inv g6 (by have := HBg.out; omega)); have K6 := Lib.hid k6; have GG6 := Lib.hid g6; have hu6 : (s6.used != s6.used) = false := (by simp); have hp6 : ((s6.pend.length : Int) != (s6.pend.length : Int)) = false := (by simp); clear b6 k6 g6)
            | (go_at_call 17; refine (diskUsed F6 p N6 s6 w6 B6.out.d).mono ?_; rintro e w7 ⟨rfl, rfl⟩)
            | (go_at_call 18; refine (refUsed G6 q s6 w6 B6.out.r).mono ?_; rw [SU6.out]; rintro e w7 ⟨rfl, rfl⟩)
            | (go_at_call 16; refine (diskPending F6 p N6 s6 w6 B6.out.d).mono ?_; rintro e w7 ⟨rfl, rfl⟩))
          all_goals
            go_wp2_with fail
            go_meet
            case rel => exact ⟨rfl, F6, G6, s6, N6, B6.out, GG6.out, n6, ((Kept.refl (w.heap.size ≤ ·) w5).drew).trans K6.out⟩
        case rest =>
          obtain ⟨rfl, F6, G6, s6, N6, b6, g6, n6, k6⟩ := hcut
          have hfl6 : s6.files.length ≤ 2097152 := by have := big_parts b6.inv g6; have := HBg.out; omega
          have B6 := Lib.hid b6
          have K6 := Lib.hid k6
          have G6' := Lib.hid g6
          clear b6 k6 g6 y0 y1 y2 y3 y4 y5 HSt
          go_wp2_with fail
          refine (diskNames F6 p N6 s6 wc B6.out.d B6.out.inv.asc (by omega)).mono ?_
          rintro e w7 ⟨An, cn, rfl, on, kn⟩
          have B7 := Lib.hid (B6.out.keep kn)
          have K7 := Lib.hid (K6.out.trans2 kn (fun _ _ a => a.elim))
          have RN := Lib.hid (Own.rd on)
          obtain ⟨Af, cf, f0, fx⟩ := B7.out.r.fcell
          have FX := Lib.hid fx
          have hnn : ((s6.files.length : Int) != (s6.files.length : Int)) = false := by simp
          clear on kn B6 K6 fx
          obtain ⟨wb, rfl⟩ : ∃ wb, wb = wr := ⟨wr, rfl⟩
          go_wp2
          go_loopw [83] (fun v wx => ∃ i : Nat, i ≤ s6.files.length ∧ v = .int .i64 i ∧ Hid (Kept noneS w7 wx)) (fun v _ => s6.files.length - (intOf v).toNat)
          case atStart => exact ⟨0, Nat.zero_le _, rfl, Lib.hid (Kept.refl _ _)⟩
          case round =>
            obtain ⟨i, hi, rfl, HKr⟩ := hrel
            by_cases hlt2 : i < s6.files.length
            · obtain ⟨g2, o2, rfl, hnc⟩ : ∃ g o, An = some ⟨g, o, none⟩ ∧ wr.cell? ⟨g, o + i, none⟩ = some (.string s6.files[i].name) := by
                rcases RN.out.keep HKr.out (fun _ _ _ b => b) with q | ⟨g, o, e, _, hc⟩
                · have := congrArg List.length q
                  simp at this
                  rw [this] at hlt2
                  cases hlt2
                · exact ⟨g, o, e, hc i _ (by simp [hlt2])⟩
              obtain ⟨g3, rfl, f1⟩ := FX.out i hlt2
              have f1r := (HKr.out.cell (lt_of_cell f1) (fun a => a)).trans f1
              have f0r := (HKr.out.cell (lt_of_cell f0) (fun a => a)).trans f0
              clear f1
              generalize s6.files[i].name = nm at hnc f1r
              have hnm : (nm.toList == nm.toList) = true := by simp
              have hii : (i : Int) < (s6.files.length : Int) := by omega
              have hi0 : (0 : Int) ≤ (i : Int) := by omega
              go_upto_region 20 with (fail)
              go_quiet (fail)
              go_wp2
              go_roundw
              case rel => exact ⟨i + 1, by omega, by go_num, Lib.hid (HKr.out.drewN _)⟩
              case measure => simp [intOf]; omega
            · obtain rfl : i = s6.files.length := by omega
              go_wp2
              go_roundw
              case rel => exact ⟨j + 1, F6, G6, s6, N6, by omega, by go_num, by omega, Lib.hid (B7.out.keep HKr.out), Lib.hid (by have h1 := HBg.out; have h2 := G6'.out; rw [HS1.out]; omega), Lib.hid ((((HK.out.trans HK5.out).trans2 K7.out (fun k a b => absurd a (Nat.not_lt.2 b)))).trans HKr.out)⟩
              case measure => simp [intOf]; omega
      · obtain rfl : j = ops.length := by omega
        rw [List.take_length] at HBg
        have hbl := HB.out
        have G8 : Hid (s.big ≤ 2097152) := Lib.hid (by have h2 := HBg.out; omega)
        have Cs := Lib.hid (crash_small HBo.out.inv G8.out (by decide))
        have Bp := Lib.hid (big_parts HBo.out.inv G8.out)
        have Hln : Hid (∀ f ∈ s.files, f.data.length ≤ 140737488351232) := Lib.hid (fun f hf => by have h1 := HBo.out.inv.len_le hf; have h2 := Bp.out; omega)
        obtain ⟨n, hn⟩ : ∃ n, s.pend.length = n := ⟨_, rfl⟩
        have hn2 : n ≤ 2097152 := by have := Bp.out; omega
        have HN := Lib.hid hn
        obtain ⟨Ap, cp, p1⟩ := HBo.out.r.pcell
        rw [hn] at p1
        clear hn HBg
        obtain ⟨wb, rfl⟩ : ∃ wb, wb = wr := ⟨wr, rfl⟩
        have p1' : (wb.alloc (.cells #[] 4)).cell? ⟨q, 1, none⟩ = some (.slice Ap n cp) := (((Kept.refl noneS wb).alloc _).cell (lt_of_cell p1) (fun a => a)).trans p1
        go_wp2
        go_loopw [15, 107] (fun v i wx => ∃ k : Nat, k ≤ n ∧ i = .int .i64 k ∧ Hid (Own wx 4 1 (wb.heap.size ≤ ·) v k (List.replicate k (.bool true))) ∧ Hid (Kept noneS wb wx)) (fun _ i _ => n - (intOf i).toNat)
        case atStart => exact ⟨0, Nat.zero_le _, rfl, Lib.hid (Own.empty _ _ _ _ (Nat.le_refl _)), Lib.hid ((Kept.refl _ _).alloc _)⟩
        case round =>
          obtain ⟨k, hk, rfl, HO, HKr⟩ := hrel
          obtain ⟨A0, c0, rfl, _⟩ := Own.form HO.out
          by_cases hlt2 : k < n
          · have hki : (k : Int) < (n : Int) := by omega
            have hk0 : (0 : Int) ≤ (k : Int) := by omega
            obtain ⟨A3, c3, w3', hap, o3, k3⟩ := bool_app wr _ _ _ HO.out (fun b a => Nat.le_trans HKr.out.size a) (by omega)
            have O3 := Lib.hid o3
            have K3' := Lib.hid (HKr.out.trans2 k3 (fun b a e => absurd a (Nat.not_lt.2 (HO.out.2 b e))))
            clear o3 k3
            go_wp2
            go_roundw
            case rel => exact ⟨k + 1, by omega, by go_num, O3, K3'⟩
            case measure => simp [intOf]; omega
          · obtain rfl : n = k := by omega
            have hcr := diskCrash F (wb.heap.size ≤ ·) p N s wr A0 c0 (List.replicate n true) (-1) (HBo.out.keep HKr.out).d HBo.out.inv.asc (by have := Own.rd HO.out; rw [List.map_replicate]; exact this) (by decide) Cs.out.1 Cs.out.2.1 Cs.out.2.2.1 Cs.out.2.2.2
            rw [List.length_replicate, left_all HBo.out.inv (by decide) (fun j hj => by rw [List.getD_eq_getElem?_getD, List.getElem?_replicate, if_pos (by rw [← HN.out]; exact hj)]; rfl)] at hcr
            have HCr := Lib.hid hcr
            have hsl : s.seen.length ≤ 2097152 := by unfold DiskS.seen; rw [List.length_map]; have := Bp.out; omega
            have hfl3 : s.files.length ≤ 2097152 := by have := Bp.out; omega
            clear hcr
            go_wp2_with fail
            refine HCr.out.mono ?_
            rintro e w13 ⟨A13, c13, rfl, o13, k13⟩
            have O13 := Lib.hid o13.fls
            have K13 := Lib.hid (HKr.out.trans k13)
            clear o13 k13 HO HKr HCr
            go_wp2_with fail
            refine (refSeen G q s w13 (HBo.out.keep K13.out).r Hln.out (by omega)).mono ?_
            rintro e w14 ⟨A14, c14, rfl, o14, k14⟩
            have O14 := Lib.hid o14
            have O13' := Lib.hid (O13.out.still k14)
            have K14 := Lib.hid (K13.out.trans k14)
            clear o14 k14 O13 K13
            go_wp2_with fail
            refine (sameFiles A13 A14 c13 c14 _ _ s.seen s.seen _ _ w14 O13'.out O14.out rfl rfl (by omega) (by omega)).mono ?_
            rintro e w15 ⟨rfl, k15⟩
            rw [(sameB_iff s.seen s.seen).2 rfl]
            go_wp2
            go_ret
            exact ⟨rfl, (HK.out.trans K14.out).trans k15⟩
  · rcases HP3.out with ⟨_, rfl, _⟩ | ⟨q, _⟩
    case inr => exact absurd q he
    have HE := Lib.hid he
    clear he HP3
    go_wp2_with fail
    refine (refOpen A c fs room _ w3 (HX.out.still K3.out) (by omega) HR.out).mono ?_
    rintro e w4 (⟨_, rfl, k4⟩ | ⟨q, _⟩)
    case inr => exact absurd q HE.out
    have K4 := Lib.hid (K3.out.trans k4)
    clear k4 HE
    generalize openErr fs [] = r at *
    go_wp2
    go_ret
    exact ⟨rfl, K4.out⟩

end Go.Proofs.Ytnlmkfncdklcdaa
