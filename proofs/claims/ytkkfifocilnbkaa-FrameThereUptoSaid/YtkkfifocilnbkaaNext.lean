/-
  frame.Parser.Next.
-/
import Derived.Test.YtkkfifocilnbkaaParse
namespace Go.Proofs.Ytkkfifocilnbkaa
open Go.RowKit

def hkind (bs : List UInt8) : Nat := beNat (bs.take 1)
def hchan (bs : List UInt8) : Nat := beNat ((bs.drop 1).take 2)
def hsize (bs : List UInt8) : Nat := beNat ((bs.drop 3).take 4)

structure NextR where
  t : Int
  ch : Int
  pl : List UInt8
  ok : Bool
  err : Int
  rest : List UInt8

def NextR.not (e : Int) (bs : List UInt8) : NextR := ⟨0, 0, [], false, e, bs⟩

def nextOf (bs : List UInt8) (mx : Int) : NextR :=
  if 0 < bs.length ∧ knownB ((bs.headD 0).toNat : Int) = false then .not 40 bs
  else if bs.length < 7 then .not 0 bs
  else if max mx 8 - 8 < (hsize bs : Int) then .not 42 bs
  else if bs.length < 8 + hsize bs then .not 0 bs
  else if bs.getD (7 + hsize bs) 0 ≠ 206 then .not 41 bs
  else ⟨hkind bs, hchan bs, (bs.drop 7).take (hsize bs), true, 0, bs.drop (8 + hsize bs)⟩

/-- What the Reader gives of seven octets. -/
theorem head7 (xs : List UInt8) (h : xs.length = 7) : ((RS.mk xs 0 0 0).num 1).2 = (hkind xs : Int) ∧ (((RS.mk xs 0 0 0).num 1).1.num 2).2 = (hchan xs : Int) ∧ ((((RS.mk xs 0 0 0).num 1).1.num 2).1.num 4).2 = (hsize xs : Int) := by
  match xs, h with
  | [a, b, c, d, e, f, g], _ =>
    have ha := a.toNat_lt
    have hb := b.toNat_lt
    have hc := c.toNat_lt
    have hd := d.toNat_lt
    have he := e.toNat_lt
    have hf := f.toNat_lt
    have hg := g.toNat_lt
    have hw : ∀ n : Nat, n < 4294967296 → IntKind.i64.wrap (n : Int) = (n : Int) := fun n hn => by rw [← wrap64_eq]; unfold wrap64; omega
    refine ⟨?_, ?_, ?_⟩
    · simp [RS.num, RS.raw, RS.left, hkind, beNat]
      exact hw _ (by omega)
    · simp [RS.num, RS.raw, RS.left, hchan, beNat]
      exact hw (b.toNat * 256 + c.toNat) (by omega)
    · simp [RS.num, RS.raw, RS.left, hsize, beNat]
      exact hw (((d.toNat * 256 + e.toNat) * 256 + f.toNat) * 256 + g.toNat) (by omega)

theorem hd_take (bs : List UInt8) (_ : 7 ≤ bs.length) : hkind (bs.take 7) = hkind bs ∧ hchan (bs.take 7) = hchan bs ∧ hsize (bs.take 7) = hsize bs := by
  refine ⟨?_, ?_, ?_⟩
  · unfold hkind; rw [List.take_take]; rfl
  · unfold hchan; rw [List.drop_take, List.take_take]; rfl
  · unfold hsize; rw [List.drop_take, List.take_take]; rfl

theorem results_cell_tmp2 {P : Program} {fn : Func} {p u v : Tmp} {ty : TypeId} (h : fn.results = #[.cell p ty, .tmp u, .tmp v]) (tmps : Array Value) (w : World) (g : Nat) (t : TypeId) (cs : Array Value) (fr : Nat × Nat) (d : TypeDesc)
    (hp : tmps.getD p undef = .pointer (some ⟨g, 0, none⟩)) (hg : w.heap[g]? = some (.cells cs t fr))
    (hu : P.underlying ty = some d) (hd : (match d with | .struct _ | .array _ _ => true | _ => false) = true) (hi : (P.info? ty).map (·.size) = some cs.size) :
    (results fn tmps).run P w = .ok (.tuple #[.agg cs, tmps.getD u undef, tmps.getD v undef]) w := by
  have hp' : tmps[p]?.getD undef = .pointer (some ⟨g, 0, none⟩) := by simpa using hp
  simp [results, h, hp', asAddr, run_loadVar_row w g t ty cs fr d hg hu hd hi]

def NextPost (w : World) (F : Nat → Prop) (p : Nat) (mx : Int) (r : NextR) (e : Ending) (w' : World) : Prop :=
  ∃ A c, e = .returned (.tuple #[.agg #[.int .i64 r.t, .int .i64 r.ch, .slice A r.pl.length c], .bool r.ok, .int .i64 r.err]) ∧ OB w' (w.heap.size ≤ ·) (.slice A r.pl.length c) r.pl ∧ PAt w' F p r.rest mx ∧ Kept F w w'

theorem NextPost.not {w w' : World} {F : Nat → Prop} {p : Nat} {mx err : Int} {bs : List UInt8} {e : Ending} (h : PAt w F p bs mx) (he : e = .returned (.tuple #[.agg #[.int .i64 0, .int .i64 0, .slice none 0 0], .bool false, .int .i64 err])) (hk : Kept noneS w w') : NextPost w F p mx (.not err bs) e w' :=
  ⟨none, 0, he, Own.nil _ _ _ _, h.keep hk (fun _ _ _ q => q.elim), hk.mono (fun _ _ q => q.elim)⟩

theorem frow_info : (Try.prog.info? 25).map (·.size) = some 3 := by kernel_rfl

theorem kept3 {w wa : World} {q : Nat} (hq : w.heap.size ≤ q) (a b c : Value) (hk : Kept noneS w wa) : Kept noneS w (((wa.setCell ⟨q, 0, none⟩ a).setCell ⟨q, 1, none⟩ b).setCell ⟨q, 2, none⟩ c) :=
  ((hk.setCell (p := ⟨q, 0, none⟩) (fun h => by simp at h; omega) _).setCell (p := ⟨q, 1, none⟩) (fun h => by simp at h; omega) _).setCell (p := ⟨q, 2, none⟩) (fun h => by simp at h; omega) _

theorem wrapB (b : UInt8) : wrap64 (b.toNat : Int) = (b.toNat : Int) := by have := b.toNat_lt; unfold wrap64; omega

set_option maxHeartbeats 1000000 in
theorem nextUnknown (mx : Int) (w : World) (F : Nat → Prop) (p : Nat) (bs : List UInt8) (h : PAt w F p bs mx) (h0 : 0 < bs.length) (hk : knownB ((bs.headD 0).toNat : Int) = false) :
    Calls Try.prog 17 #[.pointer (some ⟨p, 0, none⟩)] w (NextPost w F p mx (.not 40 bs)) := by
  have HH := Lib.hid h
  refine Calls.mono (R := fun e w' => e = .returned (.tuple #[.agg #[.int .i64 0, .int .i64 0, .slice none 0 0], .bool false, .int .i64 40]) ∧ Kept noneS w w') ?_ (fun e w' q => NextPost.not HH.out q.1 q.2)
  obtain ⟨hp, A, n, c, hb, hs⟩ := h
  obtain ⟨g, o, hA, hF, hcell⟩ := RB.at_ hs.rb h0
  have hn := hs.len
  rw [Nat.add_zero] at hcell
  have hb0 : bs[0] = bs.headD 0 := by cases bs with | nil => simp at h0 | cons x l => rfl
  rw [hb0] at hcell
  generalize bs.headD 0 = b0 at hk hcell hb0
  have c0 : w.cell? ⟨p, 0, none⟩ = some (.slice (some ⟨g, o, none⟩) n c) := by rw [← hA]; exact hb.cell 0
  have hn0 : 0 < n := by omega
  have KA : Kept noneS w (w.alloc (.cells #[.int .i64 0, .int .i64 0, .slice none 0 0] 25)) := (Kept.refl _ _).alloc _
  have BF := Blk.new w 25 #[.int .i64 0, .int .i64 0, .slice none 0 0]
  have d0 : (w.alloc (.cells #[.int .i64 0, .int .i64 0, .slice none 0 0] 25)).cell? ⟨p, 0, none⟩ = _ := (KA.cell (p := ⟨p, 0, none⟩) hb.lt (fun q => q.elim)).trans c0
  have d1 : (w.alloc (.cells #[.int .i64 0, .int .i64 0, .slice none 0 0] 25)).cell? ⟨g, o, none⟩ = _ := (KA.cell (p := ⟨g, o, none⟩) (lt_of_cell hcell) (fun q => q.elim)).trans hcell
  have q0 : (w.alloc (.cells #[.int .i64 0, .int .i64 0, .slice none 0 0] 25)).cell? ⟨w.heap.size, 0, none⟩ = some (.int .i64 0) := BF.cell 0
  have q1 : (w.alloc (.cells #[.int .i64 0, .int .i64 0, .slice none 0 0] 25)).cell? ⟨w.heap.size, 1, none⟩ = some (.int .i64 0) := BF.cell 1
  have q2 : (w.alloc (.cells #[.int .i64 0, .int .i64 0, .slice none 0 0] 25)).cell? ⟨w.heap.size, 2, none⟩ = some (.slice none 0 0) := BF.cell 2
  have hw8 := wrapB b0
  have f0 := BF.frozen 0
  have f1 := BF.frozen 1
  have f2 := BF.frozen 2
  have HBF := Lib.hid BF
  have HKA := Lib.hid KA
  clear hb hs hcell c0 BF KA hb0 hn h0 hA
  go_enter Try.func17, Try.ntmps17
  go_upto_region 1 with (fail)
  generalize w.alloc (.cells #[.int .i64 0, .int .i64 0, .slice none 0 0] 25) = wa at d0 d1 q0 q1 q2 f0 f1 f2 HBF HKA ⊢
  generalize hq : w.heap.size = q at q0 q1 q2 f0 f1 f2 HBF ⊢
  have HQ := Lib.hid hq
  clear hq
  go_wp2_with (go_at_call 24; refine (frameKnown _ _).mono ?_; rw [hk]; rintro e w' ⟨rfl, rfl⟩)
  refine bodyPost_ret (results_cell_tmp2 rfl _ _ q 25 _ _ _ rfl (((HBF.out.set_ 0 _).set_ 1 _).set_ 2 _) Try.underlying25 rfl frow_info) rfl ?_
  exact ⟨rfl, kept3 (by have := HQ.out; omega) _ _ _ HKA.out⟩

theorem bClone (A : Option Addr) (c n : Nat) (xs : List UInt8) (hl : xs.length = n) (F : Nat → Prop) (w : World) (hx : RB w F A xs) (hA : A ≠ none) (hn : xs.length ≤ 140737488355328) :
    Calls Try.prog 37 #[.slice A n c] w fun e w' => ∃ A' c', e = .returned (.slice A' n c') ∧ OB w' (w.heap.size ≤ ·) (.slice A' n c') xs ∧ Kept noneS w w' := by
  subst hl
  have hnil := fun W => run_isnil (P := Try.prog) W 23 5 Try.underlying23
  rcases A with _ | ad
  · exact absurd rfl hA
  have HX := Lib.hid hx
  clear hx hA
  go_enter Try.func37, Try.ntmps37
  go_wp2_with (at_builtin; refine wpList_appN rfl (.tmp 5) (.tmp 6) rfl (w.heap.size ≤ ·) F (.slice (some ⟨w.heap.size, 0, none⟩) 0 0) [] rfl (Own.empty _ _ _ _ (Nat.le_refl _)) _ c xs rfl (HX.out.alloc _) (by simp; omega) (by simp) ?_; intro A1 cap1 w1 hown hcap1 hk; have HO1 := Lib.hid hown; have HK1 := Lib.hid hk; clear hown hk)
  go_ret
  refine ⟨A1, cap1, by simp, by simpa using HO1.out, ((Kept.refl noneS w).alloc _).trans2 HK1.out ?_⟩
  intro k h1 h2
  have h3 : w.heap.size = k := by simpa [ownS, Value.ownBlock] using h2
  exfalso
  omega

theorem Seg.off {w : World} {F : Nat → Prop} {A : Option Addr} {n c p : Nat} {bs : List UInt8} {t : TypeId} {cs : Array Value} (h : Seg w F A n c bs) (hb : Blk w p t cs) (hne : t ≠ 5) : Seg w (fun k => F k ∧ k ≠ p) A n c bs := by
  refine ⟨h.1, ?_⟩
  rcases h.2 with h | ⟨g, o, cur, hA, hf, hbg, h⟩
  · exact .inl h
  · exact .inr ⟨g, o, cur, hA, ⟨hf, fun e => (hb.ne_ hbg hne) e.symm⟩, hbg, h⟩

theorem rb_piece {w : World} {F : Nat → Prop} {g o n c : Nat} {bs : List UInt8} (h : Seg w F (some ⟨g, o, none⟩) n c bs) (k m : Nat) (hc : c ≠ k) : RB w F (some ⟨g, o + k, none⟩) ((bs.drop k).take m) := by
  have h1 := RB.take (RB.cut h.rb (k := k) (cap := c) (by have := h.cap; have := h.len; omega)) m
  rw [if_neg hc] at h1
  simpa [Addr.add_lit] using h1

def nextW (w5 : World) (p q : Nat) (a b f v : Value) : World :=
  ((((((w5.setCell ⟨q, 0, none⟩ a).setCell ⟨q, 1, none⟩ b).setCell ⟨q, 2, none⟩ f).setCell ⟨p, 0, none⟩ v).setCell ⟨q, 0, none⟩ a).setCell ⟨q, 1, none⟩ b).setCell ⟨q, 2, none⟩ f

theorem nextW_q {w5 : World} {p q : Nat} {x y z : Value} (a b f v : Value) (h : Blk w5 q 25 #[x, y, z]) (hpq : ¬ (q = p)) : Blk (nextW w5 p q a b f v) q 25 #[a, b, f] :=
  (((((((h.set_ 0 a).set_ 1 b).set_ 2 f).far (p := ⟨p, 0, none⟩) hpq v).set_ 0 a).set_ 1 b).set_ 2 f)
theorem nextW_p {w5 : World} {p q : Nat} {x y : Value} (a b f v : Value) (h : Blk w5 p 67 #[x, y]) (hpq : ¬ (p = q)) : Blk (nextW w5 p q a b f v) p 67 #[v, y] :=
  ((((((h.far (p := ⟨q, 0, none⟩) hpq a).far (p := ⟨q, 1, none⟩) hpq b).far (p := ⟨q, 2, none⟩) hpq f).set_ 0 v).far (p := ⟨q, 0, none⟩) hpq a).far (p := ⟨q, 1, none⟩) hpq b).far (p := ⟨q, 2, none⟩) hpq f
theorem nextW_kept (w5 : World) (p q : Nat) (a b f v : Value) : Kept (fun k => k = p ∨ k = q) w5 (nextW w5 p q a b f v) :=
  (((((((Kept.refl (fun k => k = p ∨ k = q) w5).setCell (p := ⟨q, 0, none⟩) (fun _ => .inr rfl) a).setCell (p := ⟨q, 1, none⟩) (fun _ => .inr rfl) b).setCell (p := ⟨q, 2, none⟩) (fun _ => .inr rfl) f).setCell (p := ⟨p, 0, none⟩) (fun _ => .inl rfl) v).setCell (p := ⟨q, 0, none⟩) (fun _ => .inr rfl) a).setCell (p := ⟨q, 1, none⟩) (fun _ => .inr rfl) b).setCell (p := ⟨q, 2, none⟩) (fun _ => .inr rfl) f

theorem nextFin {w w5 : World} {F : Nat → Prop} {p q sz n' c' z : Nat} {mx : Int} {kd cn : Nat} {A' A5 : Option Addr} {c5 : Nat} {pl rest : List UInt8} {v0 : Value}
    (hp : F p) (hpw : p < q) (hq : w.heap.size ≤ q) (hb : Blk w5 p 67 #[v0, .int .i64 mx]) (hs : Seg w5 (fun k => (F k ∧ k ≠ p) ∧ k ≠ q) A' n' c' rest)
    (o5 : OB w5 (z ≤ ·) (.slice A5 sz c5) pl) (hz : q < z) (k5 : Kept noneS w w5) (hl : pl.length = sz) :
    NextPost w F p mx ⟨kd, cn, pl, true, 0, rest⟩ (.returned (.tuple #[.agg #[.int .i64 kd, .int .i64 cn, .slice A5 sz c5], .bool true, .int .i64 0])) (nextW w5 p q (.int .i64 kd) (.int .i64 cn) (.slice A5 sz c5) (.slice A' n' c')) := by
  subst hl
  have kw := nextW_kept w5 p q (.int .i64 kd) (.int .i64 cn) (.slice A5 pl.length c5) (.slice A' n' c')
  refine ⟨A5, c5, rfl, ?_, ⟨hp, A', n', c', nextW_p _ _ _ _ hb (by omega), ?_⟩, (k5.mono (S' := F) (fun _ _ q => q.elim)).trans2 kw (fun k h1 h2 => ?_)⟩
  · exact Own.mono (Own.keep o5 kw (fun k _ a b => by rcases b with b | b <;> omega)) (fun k _ a => by omega)
  · exact (hs.keep kw (fun k _ a b => by rcases b with b | b
                                         · exact a.1.2 b
                                         · exact a.2 b)).mono (fun k _ a => a.1.1)
  · rcases h2 with h2 | h2
    · rw [h2]; exact hp
    · omega

set_option maxHeartbeats 2000000 in
theorem nextKnown (mx : Int) (hm1 : -9223372036854775808 ≤ mx) (hm2 : mx ≤ 9223372036854775807) (w : World) (F : Nat → Prop) (p : Nat) (bs : List UInt8) (h : PAt w F p bs mx) (h7 : 7 ≤ bs.length) (hbl : bs.length ≤ 140737488355328) (hk : knownB ((bs.headD 0).toNat : Int) = true) :
    Calls Try.prog 17 #[.pointer (some ⟨p, 0, none⟩)] w (NextPost w F p mx (nextOf bs mx)) := by
  have HH := Lib.hid h
  obtain ⟨r, HR⟩ : ∃ r, Hid (nextOf bs mx = r) := ⟨_, Lib.hid rfl⟩
  rw [HR.out]
  obtain ⟨hp, A, n, c, hb, hs⟩ := h
  obtain ⟨g, o, hA, hF, hcell⟩ := RB.at_ hs.rb (show 0 < bs.length by omega)
  have hn := hs.len
  rw [Nat.add_zero] at hcell
  have hb0 : bs[0] = bs.headD 0 := by cases bs with | nil => simp at h7 | cons x l => rfl
  rw [hb0] at hcell
  generalize hb1 : bs.headD 0 = b0 at hk hcell hb0
  have HB1 := Lib.hid hb1
  subst hA
  have c0 : w.cell? ⟨p, 0, none⟩ = some (.slice (some ⟨g, o, none⟩) n c) := hb.cell 0
  have hn0 : 0 < n := by omega
  have hn7 : ¬ ((n : Int) < 7) := by omega
  have hnc : n ≤ c := hs.cap
  have KA : Kept noneS w (w.alloc (.cells #[.int .i64 0, .int .i64 0, .slice none 0 0] 25)) := (Kept.refl _ _).alloc _
  have BF := Blk.new w 25 #[.int .i64 0, .int .i64 0, .slice none 0 0]
  have d0 : (w.alloc (.cells #[.int .i64 0, .int .i64 0, .slice none 0 0] 25)).cell? ⟨p, 0, none⟩ = _ := (KA.cell (p := ⟨p, 0, none⟩) hb.lt (fun q => q.elim)).trans c0
  have d1 : (w.alloc (.cells #[.int .i64 0, .int .i64 0, .slice none 0 0] 25)).cell? ⟨g, o, none⟩ = _ := (KA.cell (p := ⟨g, o, none⟩) (lt_of_cell hcell) (fun q => q.elim)).trans hcell
  have hw8 := wrapB b0
  have HBF := Lib.hid BF
  have HKA := Lib.hid KA
  have hsz : w.heap.size < (w.alloc (.cells #[.int .i64 0, .int .i64 0, .slice none 0 0] 25)).heap.size := by simp
  have HBP := Lib.hid (hb.keep KA (fun q => q.elim))
  have HS := Lib.hid (hs.keep KA (fun _ _ _ q => q.elim))
  have hpl : p < w.heap.size := hb.lt
  have hc7 : (7 : Nat) ≤ c := by omega
  clear hb hs hcell c0 BF KA hb0 hb1
  have HN := Lib.hid hn
  clear hn
  go_enter Try.func17, Try.ntmps17
  go_upto_region 1 with (fail)
  generalize w.alloc (.cells #[.int .i64 0, .int .i64 0, .slice none 0 0] 25) = wa at d0 d1 HBF HKA hsz HBP HS ⊢
  generalize hq : w.heap.size = q at HBF hsz hpl ⊢
  have HQ := Lib.hid hq
  clear hq
  go_upto_region 5 with (go_at_call 24; refine (frameKnown _ _).mono ?_; rw [hk]; rintro e w' ⟨rfl, rfl⟩)
  go_wp2_with fail
  have l7 : (bs.take 7).length = 7 := by rw [List.length_take]; omega
  obtain ⟨e1, e2, e3⟩ := head7 (bs.take 7) l7
  obtain ⟨t1, t2, t3⟩ := hd_take bs h7
  rw [t1] at e1
  rw [t2] at e2
  rw [t3] at e3
  refine (newRS (some ⟨g, o, none⟩) c 7 (bs.take 7) l7 F wa (HS.out.rb.take 7) (by simp) (by omega)).mono ?_
  rintro e w1 ⟨pr, rfl, hpr1, hpr2, r1, k1⟩
  have R1 := Lib.hid r1
  have K1 := Lib.hid k1
  have E1 := Lib.hid e1
  have E2 := Lib.hid e2
  have E3 := Lib.hid e3
  have s1 := k1.size
  clear r1 k1 e1 e2 e3 t1 t2 t3 d0 d1 l7
  go_wp2_with fail
  refine (rsOctet w1 _ pr _ R1.out).mono ?_
  rintro e w2 ⟨rfl, r2, k2⟩
  rw [E1.out]
  have R2 := Lib.hid r2
  have K2 := Lib.hid ((K1.out.mono (S' := (· = pr)) (fun _ _ q => q.elim)).trans k2)
  clear r2 k2
  go_wp2_with fail
  refine (rsShort w2 _ pr _ R2.out).mono ?_
  rintro e w3 ⟨rfl, r3, k3⟩
  rw [E2.out]
  have R3 := Lib.hid r3
  have K3 := Lib.hid (K2.out.trans k3)
  clear r3 k3
  go_wp2_with fail
  refine (rsLong w3 _ pr _ R3.out).mono ?_
  rintro e w4 ⟨rfl, r4, k4⟩
  rw [E3.out]
  have k4' := K3.out.trans k4
  have HB4 := Lib.hid (HBP.out.keep k4' (fun h => by omega))
  have HF4 := Lib.hid (HBF.out.keep k4' (fun h => by omega))
  have HS4 := Lib.hid ((HS.out.mono (G := fun k => F k ∧ k < wa.heap.size) (fun k a b => ⟨b, a⟩)).keep k4' (fun k _ a b => by omega))
  have KK := Lib.hid (HKA.out.trans2 k4' (fun k a b => by have := HQ.out; omega))
  have z4 := Nat.le_trans hsz k4'.size
  clear r4 k4 k4' R1 R2 R3 K1 K2 K3 E1 E2 E3 HBP HBF HKA
  have hs4 : hsize bs < 4294967296 := by
    have := beNat_lt_of (l := (bs.drop 3).take 4) (k := 4) (by rw [List.length_take]; omega)
    simpa [hsize] using this
  have hx4 : hchan bs < 65536 := by
    have := beNat_lt_of (l := (bs.drop 1).take 2) (k := 2) (by rw [List.length_take]; omega)
    simpa [hchan] using this
  have hy4 : hkind bs < 256 := by
    have := beNat_lt_of (l := bs.take 1) (k := 1) (by rw [List.length_take]; omega)
    simpa [hkind] using this
  obtain ⟨sz, HSz⟩ : ∃ sz, Hid (hsize bs = sz) := ⟨_, Lib.hid rfl⟩
  obtain ⟨kd, HKd⟩ : ∃ kd, Hid (hkind bs = kd) := ⟨_, Lib.hid rfl⟩
  obtain ⟨cn, HCn⟩ : ∃ cn, Hid (hchan bs = cn) := ⟨_, Lib.hid rfl⟩
  rw [HSz.out] at hs4 ⊢
  rw [HKd.out] at hy4 ⊢
  rw [HCn.out] at hx4 ⊢
  have d0 : w4.cell? ⟨p, 0, none⟩ = some (.slice (some ⟨g, o, none⟩) n c) := HB4.out.cell 0
  have d1 : w4.cell? ⟨p, 1, none⟩ = some (.int .i64 mx) := HB4.out.cell 1
  have f0 : w4.frozen? ⟨p, 0, none⟩ = false := HB4.out.frozen 0
  have q0 : w4.cell? ⟨q, 0, none⟩ = some (.int .i64 0) := HF4.out.cell 0
  have q1 : w4.cell? ⟨q, 1, none⟩ = some (.int .i64 0) := HF4.out.cell 1
  have q2 : w4.cell? ⟨q, 2, none⟩ = some (.slice none 0 0) := HF4.out.cell 2
  have g0 := HF4.out.frozen 0
  have g1 := HF4.out.frozen 1
  have g2 := HF4.out.frozen 2
  obtain ⟨lim, hlim⟩ : ∃ lim : Int, (if mx < 8 then 8 else mx) = lim := ⟨_, rfl⟩
  have hlm : max mx 8 = lim := by rw [← hlim]; split <;> omega
  have hl8 : 8 ≤ lim := by omega
  have hl9 : lim ≤ 9223372036854775807 := by omega
  have HLm := Lib.hid hlm
  clear hlm
  have hk2 : ¬ (0 < bs.length ∧ knownB ((bs.headD 0).toNat : Int) = false) := by rw [HB1.out, hk]; simp
  have HK2 := Lib.hid hk2
  have hqw : w.heap.size ≤ q := by have := HQ.out; omega
  clear hk2 hk HB1 hw8
  go_upto_region 7 with (fail)
  by_cases hc1 : lim - 7 - 1 < (sz : Int)
  · have hr : r = .not 42 bs := by
      rw [← HR.out]
      unfold nextOf
      rw [if_neg HK2.out, if_neg (by omega), if_pos (by rw [HLm.out, HSz.out]; omega)]
    clear HR
    subst hr
    go_wp2
    refine bodyPost_ret (results_cell_tmp2 rfl _ _ q 25 _ _ _ rfl (((HF4.out.set_ 0 _).set_ 1 _).set_ 2 _) Try.underlying25 rfl frow_info) rfl ?_
    exact NextPost.not HH.out rfl (kept3 hqw _ _ _ KK.out)
  · have hc1' : (sz : Int) ≤ lim - 7 - 1 := by omega
    by_cases hc2 : (n : Int) < 7 + (sz : Int) + 1
    · have hr : r = .not 0 bs := by
        rw [← HR.out]
        unfold nextOf
        rw [if_neg HK2.out, if_neg (by omega), if_neg (by rw [HLm.out, HSz.out]; omega), if_pos (by rw [HSz.out]; have := HN.out; omega)]
      clear HR
      subst hr
      go_wp2
      refine bodyPost_ret (results_cell_tmp2 rfl _ _ q 25 _ _ _ rfl (((HF4.out.set_ 0 _).set_ 1 _).set_ 2 _) Try.underlying25 rfl frow_info) rfl ?_
      exact NextPost.not HH.out rfl (kept3 hqw _ _ _ KK.out)
    · obtain ⟨g', o', hA', _, hcl⟩ := RB.at_ HS4.out.rb (show 7 + sz < bs.length by have := HN.out; omega)
      injection hA' with hA'
      injection hA' with hA1 hA2
      subst hA1 hA2
      have hgd : bs.getD (7 + sz) 0 = bs[7 + sz]'(by have := HN.out; omega) := by
        have : 7 + sz < bs.length := by have := HN.out; omega
        simp [List.getD, this]
      generalize hbe : bs[7 + sz]'(by have := HN.out; omega) = be at hcl hgd
      have hcl' : w4.cell? ⟨g, o + (7 + sz), none⟩ = some (.int .u8 (be.toNat : Int)) := hcl
      have HGd := Lib.hid hgd
      clear hgd hbe hcl
      by_cases hc3 : be = 206
      · have hr : r = ⟨hkind bs, hchan bs, (bs.drop 7).take sz, true, 0, bs.drop (8 + sz)⟩ := by
          rw [← HR.out]
          unfold nextOf
          rw [if_neg HK2.out, if_neg (by omega), if_neg (by rw [HLm.out, HSz.out]; omega), if_neg (by rw [HSz.out]; have := HN.out; omega), if_neg (by rw [HSz.out, HGd.out, hc3]; simp), HSz.out]
        rw [HKd.out, HCn.out] at hr
        have HRR := Lib.hid hr
        subst hc3
        have hcl2 : w4.cell? ⟨g, o + (7 + sz), none⟩ = some (.int .u8 206) := hcl'
        have hi7 : ((7 : Int) + (sz : Int)).toNat = 7 + sz := by omega
        have hc7' : ¬ (c = 7) := by have := HN.out; omega
        clear hcl' HGd hr
        clear HR
        have hr2 := HRR.out
        subst hr2
        clear HRR
        go_upto_region 14 with (fail)
        go_wp2_with fail
        have hlen : ((bs.drop 7).take sz).length = sz := by rw [List.length_take, List.length_drop]; have := HN.out; omega
        refine (bClone (some ⟨g, o + 7, none⟩) (c - 7) sz ((bs.drop 7).take sz) hlen _ w4 (rb_piece HS4.out 7 sz hc7') (by simp) (by omega)).mono ?_
        rintro e w5 ⟨A5, c5, rfl, o5, k5⟩
        have HO5 := Lib.hid o5
        have HK5 := Lib.hid (KK.out.trans k5)
        have B5 := HB4.out.keep k5 (fun q => q.elim)
        have F5 := HF4.out.keep k5 (fun q => q.elim)
        have HS5 := Lib.hid ((((HS4.out.mono (G := F) (fun _ _ a => a.1)).keep k5 (fun _ _ _ q => q.elim)).off B5 (by decide)).off F5 (by decide))
        have y5 := k5.size
        have d0 : w5.cell? ⟨p, 0, none⟩ = some (.slice (some ⟨g, o, none⟩) n c) := B5.cell 0
        have f0 : w5.frozen? ⟨p, 0, none⟩ = false := B5.frozen 0
        have q0 : w5.cell? ⟨q, 0, none⟩ = some (.int .i64 0) := F5.cell 0
        have q1 : w5.cell? ⟨q, 1, none⟩ = some (.int .i64 0) := F5.cell 1
        have q2 : w5.cell? ⟨q, 2, none⟩ = some (.slice none 0 0) := F5.cell 2
        have g0 := F5.frozen 0
        have g1 := F5.frozen 1
        have g2 := F5.frozen 2
        have HB5 := Lib.hid B5
        have HF5 := Lib.hid F5
        have hpq : ¬ (p = q) := by omega
        have hqp : ¬ (q = p) := by omega
        have hi8 : ((7 : Int) + (sz : Int) + 1).toNat = 8 + sz := by omega
        clear k5 o5 B5 F5 HS4 HB4 HF4 KK HS
        by_cases hce : c = 8 + sz
        · have HC := Lib.hid (HS5.out.cut (k := 8 + sz) (by omega))
          rw [if_pos hce] at HC
          have HCE := Lib.hid hce
          go_wp2
          refine bodyPost_ret (results_cell_tmp2 rfl _ _ q 25 _ _ _ rfl (nextW_q (.int .i64 kd) (.int .i64 cn) (.slice A5 sz c5) _ HF5.out hqp) Try.underlying25 rfl frow_info) rfl ?_
          have HC2 := HC.out
          rw [show c - (8 + sz) = 0 by have := HCE.out; omega] at HC2
          exact nextFin hp hpl hqw HB5.out HC2 HO5.out (by omega) HK5.out hlen
        · have HC := Lib.hid (HS5.out.cut (k := 8 + sz) (by omega))
          rw [if_neg hce] at HC
          go_wp2
          refine bodyPost_ret (results_cell_tmp2 rfl _ _ q 25 _ _ _ rfl (nextW_q (.int .i64 kd) (.int .i64 cn) (.slice A5 sz c5) _ HF5.out hqp) Try.underlying25 rfl frow_info) rfl ?_
          have HC2 := HC.out
          rw [Option.map_some, Addr.add_lit] at HC2
          exact nextFin hp hpl hqw HB5.out HC2 HO5.out (by omega) HK5.out hlen
      · have hr : r = .not 41 bs := by
          rw [← HR.out]
          unfold nextOf
          rw [if_neg HK2.out, if_neg (by omega), if_neg (by rw [HLm.out, HSz.out]; omega), if_neg (by rw [HSz.out]; have := HN.out; omega), if_pos (by rw [HSz.out, HGd.out]; exact hc3)]
        clear HR
        subst hr
        have hc4 : ¬ ((be.toNat : Int) = 206) := by
          intro e
          have h : be.toNat = 206 := by omega
          exact hc3 (UInt8.toNat_inj.1 h)
        have hi7 : ((7 : Int) + (sz : Int)).toNat = 7 + sz := by omega
        go_wp2
        refine bodyPost_ret (results_cell_tmp2 rfl _ _ q 25 _ _ _ rfl (((HF4.out.set_ 0 _).set_ 1 _).set_ 2 _) Try.underlying25 rfl frow_info) rfl ?_
        exact NextPost.not HH.out rfl (kept3 hqw _ _ _ KK.out)

end Go.Proofs.Ytkkfifocilnbkaa
