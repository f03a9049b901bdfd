/-
  The walk of the law SessionIds.
-/
import Derived.Test.YtmeeldcgmfplnaaW32
import Derived.Test.YtmeeldcgmfplnaaW30
set_option linter.unusedVariables false
set_option linter.unusedSimpArgs false
namespace Go.Proofs.Ytmeeldcgmfplnaa
open Go.RowKit Go.BigFrame
attribute [local go_sem] setRow_setCell_same setRow_setCell_other setRow_cell_same setRow_cell_other setRow_frozen setRow_shape
attribute [local go_sem ↓] Go.wp_at_zero Go.wp_at_succ

theorem sesN_rd (n : Int) (ok : Nat → Prop) (w : World) : RdSes ok w (sesN n) none 0 none 0 none 0 none 0 := ⟨Sl.nil _ _ _ _, Sl.nil _ _ _ _, Sl.nil _ _ _ _, Sl.nil _ _ _ _⟩

theorem from_range (n : Int) : 0 ≤ wrap64 ((IntKind.u64.wrap n).tmod 65536) ∧ wrap64 ((IntKind.u64.wrap n).tmod 65536) ≤ 65535 := by
  have h0 : 0 ≤ IntKind.u64.wrap n := by
    unfold IntKind.wrap
    simp [IntKind.bits, IntKind.signed]
    omega
  have h1 := Int.tmod_nonneg 65536 h0
  have h2 := Int.tmod_lt_of_pos (IntKind.u64.wrap n) (b := 65536) (by decide)
  unfold wrap64
  omega

/-- Behind an answer: the old session still in its variable, the new one in a variable of its own. -/
structure JI22 (s s' : Ses) (l : List Pkt) (w : World) (A1 : Option Addr) (c1 : Nat) (A2 : Option Addr) (c2 : Nat) (A3 : Option Addr) (c3 : Nat) (A4 : Option Addr) (c4 : Nat) (B1 : Option Addr) (d1 : Nat) (B2 : Option Addr) (d2 : Nat) (B3 : Option Addr) (d3 : Nat) (B4 : Option Addr) (d4 : Nat) (g : Nat) (Bq : Option Addr) (dq : Nat) (wx : World) : Prop where
  b : Blk wx w.heap.size 27 (sesCells s A1 c1 A2 c2 A3 c3 A4 c4)
  bg : Blk wx g 27 (sesCells s' B1 d1 B2 d2 B3 d3 B4 d4)
  gt : w.heap.size < g
  rd : RdSes (fun b => w.heap.size < b) wx s' B1 d1 B2 d2 B3 d3 B4 d4
  pk : Sl 184 kPkt (fun b => w.heap.size < b) wx Bq dq l
  below : Below w.heap.size w wx
section
variable {s s' : Ses} {l : List Pkt} {w wx w1 : World} {A1 : Option Addr} {c1 : Nat} {A2 : Option Addr} {c2 : Nat} {A3 : Option Addr} {c3 : Nat} {A4 : Option Addr} {c4 : Nat} {B1 : Option Addr} {d1 : Nat} {B2 : Option Addr} {d2 : Nat} {B3 : Option Addr} {d3 : Nat} {B4 : Option Addr} {d4 : Nat} {Bq : Option Addr} {dq : Nat}
theorem JI22.late (h : JS s w A1 c1 A2 c2 A3 c3 A4 c4 wx) (hb : Below wx.heap.size wx w1) (hrd : RdSes (fun b => wx.heap.size ≤ b) w1 s' B1 d1 B2 d2 B3 d3 B4 d4) (hpk : Sl 184 kPkt (fun b => wx.heap.size ≤ b) w1 Bq dq l) :
    JI22 s s' l w A1 c1 A2 c2 A3 c3 A4 c4 B1 d1 B2 d2 B3 d3 B4 d4 w1.heap.size Bq dq (w1.alloc (.cells (sesCells s' B1 d1 B2 d2 B3 d3 B4 d4) 27)) := by
  have hlt := h.b.lt
  have hs := hb.size
  have hB := below_all h.below h.below.size hb
  have ha : Below w1.heap.size w1 (w1.alloc (.cells (sesCells s' B1 d1 B2 d2 B3 d3 B4 d4) 27)) := (Below.refl _ _).alloc (Nat.le_refl _) _
  exact ⟨(h.b.belowAll hb).alloc _, Blk.new _ _ _, by omega, (hrd.below ha).mono (fun b hb _ => by omega), (hpk.below ha).mono (fun b hb _ => by omega), below_all hB hB.size ha⟩
theorem JI22.soon (h : JS s w A1 c1 A2 c2 A3 c3 A4 c4 wx) (hb : Below wx.heap.size wx w1) (hn : Blk w1 wx.heap.size 27 zeroSes) (hrd : RdSes (fun b => wx.heap.size + 1 ≤ b) w1 s' B1 d1 B2 d2 B3 d3 B4 d4) (hpk : Sl 184 kPkt (fun b => wx.heap.size + 1 ≤ b) w1 Bq dq l) :
    JI22 s s' l w A1 c1 A2 c2 A3 c3 A4 c4 B1 d1 B2 d2 B3 d3 B4 d4 wx.heap.size Bq dq (w1.setRow wx.heap.size (sesCells s' B1 d1 B2 d2 B3 d3 B4 d4)) := by
  have hlt := h.b.lt
  have hB := below_all h.below h.below.size hb
  have hk : Kp (fun b => wx.heap.size + 1 ≤ b) w1 (w1.setRow wx.heap.size (sesCells s' B1 d1 B2 d2 B3 d3 B4 d4)) := (Kp.refl _ _).put (fun b hb => by omega) _
  exact ⟨(h.b.belowAll hb).other (by omega) _, hn.put _, hlt, (hrd.move hk.2).mono (fun b hb _ => by omega), (hpk.kp hk).mono (fun b hb _ => by omega), below_put hB (by omega) _⟩
theorem JI22.copy {g : Nat} (h : JI22 s s' l w A1 c1 A2 c2 A3 c3 A4 c4 B1 d1 B2 d2 B3 d3 B4 d4 g Bq dq wx) :
    JS s' w B1 d1 B2 d2 B3 d3 B4 d4 (wx.setRow w.heap.size (sesCells s' B1 d1 B2 d2 B3 d3 B4 d4)) ∧ Sl 184 kPkt (fun b => w.heap.size < b) (wx.setRow w.heap.size (sesCells s' B1 d1 B2 d2 B3 d3 B4 d4)) Bq dq l := by
  have hk : Kp (fun b => w.heap.size < b) wx (wx.setRow w.heap.size (sesCells s' B1 d1 B2 d2 B3 d3 B4 d4)) := (Kp.refl _ _).put (fun b hb => by omega) _
  exact ⟨⟨h.b.put _, h.rd.move hk.2, below_put h.below (Nat.le_refl _) _⟩, h.pk.kp hk⟩
end
theorem kmod (k n : Nat) : ((k : Int)).tmod (n : Int) = ((k % n : Nat) : Int) := by
  rw [Int.tmod_eq_emod_of_nonneg (by omega)]
  rfl

set_option maxRecDepth 100000 in
set_option maxHeartbeats 8000000 in
theorem ids_any (n : Int) (xs : List Bool) (A : Option Addr) (c : Nat) (ok : Nat → Prop) (w : World) (h : Sl 1 kBool ok w A c xs) :
    Calls Try.prog 5 #[.int .i64 n, .slice A xs.length c] w (PostT w) := by
  have hl : xs.length ≤ 140737488355328 := by have := h.2.2.1; omega
  have H := Aside.mk (h.mono (ok' := fun b => b < w.heap.size) (fun b _ hlt => hlt))
  clear h
  go_enter Try.func5, Try.ntmps5
  go_upto_region 3 with fail
  obtain ⟨hm0, hm1⟩ := from_range n
  generalize wrap64 ((IntKind.u64.wrap n).tmod 65536) = m at hm0 hm1 ⊢
  have HJ0 := Aside.mk (show JS (sesN m) w none 0 none 0 none 0 none 0 (w.alloc (.cells (sesCells (sesN m) none 0 none 0 none 0 none 0) 27)) from ⟨Blk.new _ _ _, sesN_rd _ _ _, (Below.refl _ _).alloc (Nat.le_refl _) _⟩)
  have HN0 := Aside.mk (JN.start hm0 hm1)
  clear hm0 hm1
  go_upto_block 0 with fail
  go_cut [6] (fun v wx => ∃ s A1 c1 A2 c2 A3 c3 A4 c4, v = .int .i64 s.nid ∧ Aside (JN s) ∧ Aside (JS s w A1 c1 A2 c2 A3 c3 A4 c4 wx))
  case first =>
    go_wp2_with fail
    go_loopw [6, 26] (fun v i wr => ∃ (k : Nat) (s : Ses) (A1 : Option Addr) (c1 : Nat) (A2 : Option Addr) (c2 : Nat) (A3 : Option Addr) (c3 : Nat) (A4 : Option Addr) (c4 : Nat), k ≤ xs.length ∧ i = .int .i64 k ∧ v = .int .i64 s.nid ∧ Aside (JN s) ∧ Aside (JS s w A1 c1 A2 c2 A3 c3 A4 c4 wr)) (fun _ i _ => xs.length - (intOf i).toNat)
    case atStart => exact ⟨0, sesN m, none, 0, none, 0, none, 0, none, 0, Nat.zero_le _, rfl, rfl, HN0, HJ0⟩
    case round =>
      clear HN0 HJ0
      obtain ⟨k, s, A1, c1, A2, c2, A3, c3, A4, c4, hk, rfl, rfl, HN, HJ⟩ := hrel
      have hg0 := HJ.out.b.lt
      by_cases hlt : k < xs.length
      · have hlt' : (k : Int) < (xs.length : Int) := by omega
        have hk0 : (0 : Int) ≤ (k : Int) := by omega
        have hx : xs[k]? = some xs[k] := List.getElem?_eq_getElem hlt
        obtain ⟨ad, rfl, e0⟩ := bool_at (H.out.below HJ.out.below).2.2.2 hlt hx
        generalize xs[k] = x at hx e0
        obtain ⟨b0c, b0f, _, _⟩ := HJ.out.b.all
        clear hx
        by_cases h60 : (60 : Int) ≤ (k : Int)
        · go_wp2_with fail
          go_meet
          exact ⟨s, A1, c1, A2, c2, A3, c3, A4, c4, rfl, HN, HJ⟩
        · have h60' : (k : Int) < 60 := by omega
          clear h60
          go_upto_region 7 with fail
          have HD0 := Aside.mk (ids_deliver s HN.out)
          generalize hD : deliverD s msg0 true = D at HD0
          obtain ⟨t, l, dd⟩ := D
          have HD := Aside.mk hD
          clear hD
          go_wp2_with fail
          refine (deliver_any s A1 c1 A2 c2 A3 c3 A4 c4 msg0 none 0 true _ (fun _ => True) _ HJ.out.rd (Sl.nil _ _ _ _)).mono ?_
          rintro e w1 h1
          rw [HD.out] at h1
          obtain ⟨vs, vp, rfl, ⟨B1, d1, B2, d2, B3, d3, B4, d4, rfl, hrd⟩, ⟨Bp, dp, rfl, hpk⟩, hb1⟩ := h1
          dsimp only at hrd hpk
          have HS := Aside.mk ((HJ.out.store hb1 hrd).far ((Below.refl _ _).alloc (Nat.le_refl _) (.cells (sesCells t B1 d1 B2 d2 B3 d3 B4 d4) 27)))
          have HPK := Aside.mk ((hpk.kp ((Kp.refl _ _).put (g := w.heap.size) (fun b hb => by omega) (sesCells t B1 d1 B2 d2 B3 d3 B4 d4))).below ((Below.refl _ _).alloc (Nat.le_refl _) (.cells (sesCells t B1 d1 B2 d2 B3 d3 B4 d4) 27)))
          have k0 := HJ.out.b.belowAll hb1
          have hlt0 : w.heap.size < w1.heap.size := k0.lt
          have hne0 : ¬ w.heap.size = w1.heap.size := by omega
          clear b0c b0f
          obtain ⟨k0c, k0f, k0s, k0h⟩ := k0.all
          clear k0 hrd hpk hb1
          simp only [sesCells]
          go_upto_if 43 with fail
          simp only [sesCells] at HS HPK
          generalize (w1.setRow w.heap.size #[.string t.cl, .slice B1 t.subs.length d1, .slice B2 t.queue.length d2, .slice B3 t.flight.length d3, .slice B4 t.ids.length d4, .int .i64 t.nid, .int .i64 t.hd, .int .i64 t.snt]).alloc (.cells #[.string t.cl, .slice B1 t.subs.length d1, .slice B2 t.queue.length d2, .slice B3 t.flight.length d3, .slice B4 t.ids.length d4, .int .i64 t.nid, .int .i64 t.hd, .int .i64 t.snt] 27) = wx at HS HPK ⊢
          clear k0c k0f k0s k0h hlt0 hne0
          go_cut [6] (fun v wx => ∃ t B1 d1 B2 d2 B3 d3 B4 d4, v = .int .i64 t.nid ∧ Aside (JN t) ∧ Aside (JS t w B1 d1 B2 d2 B3 d3 B4 d4 wx))
          case first =>
            rcases HD0.out with ⟨hl4, e, hJN⟩ | ⟨t', d', e, hJN, hnid⟩
            · simp only [Prod.mk.injEq] at e
              obtain ⟨ht, hle, hdd⟩ := e
              have hl1 : ((l.length : Int) == 1) = true := by rw [hle]; rfl
              have HLE := Aside.mk hle
              have hll : t.flight.length = s.flight.length + 1 := by rw [ht]; simp [sendS]
              have hfl := Aside.mk (show t.flight = s.flight ++ [fly msg0 (nxt s.flight s.nid) s.snt] by rw [ht]; rfl)
              have hnid := Aside.mk (show t.nid = nxt s.flight s.nid by rw [ht]; rfl)
              have HK0 := Aside.mk (JK.start HN.out hl4)
              have HNt := Aside.mk (show JN t by rw [ht]; exact hJN)
              have b0 := HS.out.b
              simp only [sesCells, hll] at b0
              have B0 := Aside.mk b0
              obtain ⟨b0c, b0f, _, _⟩ := b0.all
              have hst := Aside.mk (show wrap64 (s.nid.tmod 65535 + 1) = s.nid % 65535 + 1 by have := HN.out.lo; have := HN.out.hi; rw [Int.tmod_eq_emod_of_nonneg (by omega)]; unfold wrap64; omega)
              have hcap : (s.flight.length : Int) ≤ (d3 : Int) := by have := HS.out.rd.flight.1; omega
              clear b0 ht hdd hJN HD0 HD hle
              simp only [hll, hl1]
              clear hll hl1
              go_upto_region 10 with fail
              go_cut [47] (fun v wi => v = .bool false ∧ wi = wx)
              case first =>
                go_wp2_with fail
                go_meet
                refine ⟨?_, rfl⟩
                congr 1
              case rest =>
                obtain ⟨rfl, hw⟩ := hcut
                subst hw
                go_wp2_with fail
                go_loopw [12, 13] (fun v j wi => ∃ (k2 : Nat) (id : Int), j = .int .i64 k2 ∧ v = .int .i64 id ∧ Aside (JK s.flight (nxt s.flight s.nid) k2 id) ∧ Below wc.heap.size wc wi) (fun _ j _ => 4 - (intOf j).toNat)
                case atStart => exact ⟨0, _, rfl, by rw [hst.out], HK0, Below.refl _ _⟩
                case round =>
                  clear hst HK0 b0c b0f
                  obtain ⟨k2, id, rfl, rfl, HK, hB2⟩ := hrel
                  have hk3 := HK.out.kle
                  have hk5 : (k2 : Int) < 5 := by omega
                  have HB2 := Aside.mk hB2
                  obtain ⟨c0c, c0f, _, _⟩ := (B0.out.belowAll hB2).all
                  clear hB2
                  go_wp2_with fail
                  refine (on_any s.flight B3 d3 _ id _ (Sl.front (ys := [fly msg0 (nxt s.flight s.nid) s.snt]) (hfl.out ▸ (HS.out.rd.flight.below HB2.out)))).mono ?_
                  rintro e w3 ⟨rfl, hb3⟩
                  have HB3 := Aside.mk (below_all HB2.out HB2.out.size hb3)
                  clear hb3
                  cases hon : onB s.flight id
                  · have hid := Aside.mk (HK.out.done hon)
                    clear hon
                    obtain ⟨bd, B', d', hBp, hQ, f0, f1⟩ := pkt_at (HPK.out.below HB3.out).2.2.2 (i := 0) (by rw [HLE.out]; simp) (x := pub msg0 (nxt s.flight s.nid) false) (by rw [HLE.out]; rfl)
                    have hl0 : (0 : Int) < (l.length : Int) := by rw [HLE.out]; simp
                    subst hBp
                    have g1 := f1 1 _ (by decide) rfl
                    have g1' : w3.cell? ⟨bd.block, bd.off + 1, none⟩ = some (.int .i64 id) := by rw [hid.out]; simpa [Addr.add, pub] using g1
                    clear f0 f1 g1 hQ c0c c0f
                    obtain ⟨c0c, c0f, _, _⟩ := (B0.out.belowAll HB3.out).all
                    go_wp2_with fail
                    go_meet
                    exact ⟨t, B1, d1, B2, d2, B3, d3, B4, d4, by rw [hid.out, hnid.out], HNt, ⟨HS.out.far HB3.out⟩⟩
                  · have HK2 := Aside.mk (HK.out.more hon)
                    have hid := Aside.mk (show wrap64 (id.tmod 65535 + 1) = id % 65535 + 1 by have := HK.out.lo; have := HK.out.hi; rw [Int.tmod_eq_emod_of_nonneg (by omega)]; unfold wrap64; omega)
                    clear hon
                    go_wp2_with fail
                    go_roundw
                    case rel => exact ⟨k2 + 1, id % 65535 + 1, by go_num, by rw [hid.out], HK2, HB3.out⟩
                    case measure => simp [intOf]; omega
            · simp only [Prod.mk.injEq] at e
              obtain ⟨rfl, rfl, rfl⟩ := e
              go_wp2_with fail
              go_meet
              exact ⟨t, B1, d1, B2, d2, B3, d3, B4, d4, by rw [hnid], ⟨hJN⟩, HS⟩
          case rest =>
            clear HS HPK HD0 HD
            obtain ⟨s2, C1, e1, C2, e2, C3, e3, C4, e4, rfl, HN2, HJ2⟩ := hcut
            obtain ⟨b0c, b0f, b0s, b0h⟩ := HJ2.out.b.all
            cases x
            · go_wp2_with fail
              go_roundw
              case rel => exact ⟨k + 1, s2, C1, e1, C2, e2, C3, e3, C4, e4, by omega, by go_num, rfl, HN2, HJ2⟩
              case measure => simp [intOf]; omega
            · by_cases hz : s2.flight.length = 0
              · have hz' : decide ((0 : Int) < (s2.flight.length : Int)) = false := by simp [hz]
                have hz0 : ¬ (0 : Int) < (s2.flight.length : Int) := by omega
                clear hz
                go_wp2_with fail
                go_roundw
                case rel => exact ⟨k + 1, s2, C1, e1, C2, e2, C3, e3, C4, e4, by omega, by go_num, rfl, HN2, HJ2⟩
                case measure => simp [intOf]; omega
              · have hz' : (0 : Int) < (s2.flight.length : Int) := by omega
                have hnz : ¬ (s2.flight.length : Int) = 0 := by omega
                have hmlt : k % s2.flight.length < s2.flight.length := Nat.mod_lt _ (by omega)
                have hKM := kmod k s2.flight.length
                clear hz
                go_upto_region 22 with fail
                rw [show ((k : Int) % (s2.flight.length : Int)) = ((k % s2.flight.length : Nat) : Int) from rfl]
                generalize k % s2.flight.length = j at hmlt hKM ⊢
                clear hKM
                have hj : (j : Int) < (s2.flight.length : Int) := by omega
                have hx2 : s2.flight[j]? = some s2.flight[j] := List.getElem?_eq_getElem hmlt
                obtain ⟨ad2, A', c', hAd, hP2, hw2, i0, i1, i2, i3, i4, i5, i6, i7⟩ := flt_at HJ2.out.rd.flight.2.2.2 hmlt hx2
                generalize s2.flight[j] = f at hx2 hP2 hw2 i0 i1 i2 i3 i4 i5 i6 i7
                subst hAd
                have i0' := fun o => cell_alloc i0 o
                have hnlt : w.heap.size < wc.heap.size := HJ2.out.b.lt
                have hne : ¬ w.heap.size = wc.heap.size := by omega
                have hfl := Aside.mk (show s2.flight.length ≤ 1000 by have := HN2.out.inv.fl; omega)
                have HA0 := Aside.mk (ids_answer s2 HN2.out f.id)
                generalize hD : answerD s2 4 f.id = D at HA0
                obtain ⟨s3, l3⟩ := D
                have HD := Aside.mk hD
                clear hx2 hP2 hw2 i1 i2 i3 i4 i5 i6 i7 hD hmlt
                go_cut [15, 16] (fun v15 v16 wx => ∃ g D1 g1 D2 g2 D3 g3 D4 g4 Bq dq, v15 = .pointer (some ⟨g, 0, none⟩) ∧ v16 = .slice Bq l3.length dq ∧ Aside (JI22 s2 s3 l3 w C1 e1 C2 e2 (some ad2) e3 C4 e4 D1 g1 D2 g2 D3 g3 D4 g4 g Bq dq wx))
                case first =>
                  go_region_with (first | (go_at_call 20; refine (answer_any s2 C1 e1 C2 e2 (some ad2) e3 C4 e4 4 f.id _ _ (HJ2.out.rd.below ((Below.refl _ _).drew)) hfl.out).mono ?_; rintro e w3 h3; rw [HD.out] at h3; obtain ⟨vs, vp, rfl, ⟨D1, g1, D2, g2, D3, g3, D4, g4, rfl, hrd⟩, ⟨Bq, dq, rfl, hpk⟩, hb3⟩ := h3; dsimp only at hrd hpk; have hb4 : Below wc.heap.size wc w3 := Below.trans (Below.refl _ _).drew hb3; have HA := Aside.mk (JI22.late HJ2.out hb4 hrd hpk); clear hrd hpk hb3 hb4) | (go_at_call 20; refine (answer_any s2 C1 e1 C2 e2 (some ad2) e3 C4 e4 4 f.id _ _ (HJ2.out.rd.below (((Below.refl _ _).alloc (Nat.le_refl _) _).drew)) hfl.out).mono ?_; rintro e w3 h3; rw [HD.out] at h3; obtain ⟨vs, vp, rfl, ⟨D1, g1, D2, g2, D3, g3, D4, g4, rfl, hrd⟩, ⟨Bq, dq, rfl, hpk⟩, hb3⟩ := h3; dsimp only at hrd hpk; have hb4 : Below wc.heap.size wc w3 := Below.trans (((Below.refl _ _).alloc (Nat.le_refl _) _).drew) (hb3.mono (by simp)); have k5 := ((Blk.new wc 27 zeroSes).drew).belowAll hb3; have HA := Aside.mk (JI22.soon HJ2.out hb4 k5 (hrd.mono (fun b hb _ => (by simpa using hb))) (hpk.mono (fun b hb _ => (by simpa using hb)))); obtain ⟨k5c, k5f, k5s, k5h⟩ := k5.all; clear hrd hpk hb3 hb4 k5))
                  all_goals
                    go_wp2_with fail
                    go_meet
                    exact ⟨_, D1, g1, D2, g2, D3, g3, D4, g4, Bq, dq, rfl, rfl, HA⟩
                case rest =>
                  obtain ⟨g, D1, g1, D2, g2, D3, g3, D4, g4, Bq, dq, rfl, rfl, HI⟩ := hcut
                  clear b0c b0f b0s b0h i0 i0'
                  have HC := Aside.mk HI.out.copy
                  have hng : ¬ g = w.heap.size := by have := HI.out.gt; omega
                  obtain ⟨b0c, b0f, b0s, b0h⟩ := HI.out.b.all
                  obtain ⟨bgc, bgf, _, _⟩ := HI.out.bg.all
                  rcases HA0.out with ⟨t3, e, hJN, hnid⟩ | ⟨t3, l4, x3, e, hJN, hne, hlast, hid⟩
                  · simp only [Prod.mk.injEq] at e
                    obtain ⟨rfl, rfl⟩ := e
                    have HNt := Aside.mk hJN; have HNI := Aside.mk hnid
                    clear hJN hnid HA0
                    go_wp2_with fail
                    go_roundw
                    case rel => exact ⟨k + 1, s3, D1, g1, D2, g2, D3, g3, D4, g4, by omega, by go_num, by rw [HNI.out], HNt, ⟨HC.out.1⟩⟩
                    case measure => simp [intOf]; omega
                  · simp only [Prod.mk.injEq] at e
                    obtain ⟨rfl, rfl⟩ := e
                    have hlp : (0 : Int) < (l3.length : Int) := by have := List.length_pos_iff.2 hne; omega
                    have hlm : l3.length - 1 < l3.length := by omega
                    obtain ⟨bd, B', d', hBp, hQ, f0, f1⟩ := pkt_at HC.out.2.2.2.2 hlm hlast
                    subst hBp
                    have g1' := f1 1 _ (by decide) rfl
                    have HNt := Aside.mk hJN; have HNI := Aside.mk hid
                    obtain ⟨j3, hj3⟩ : ∃ j3, l3.length = j3 + 1 := ⟨l3.length - 1, by omega⟩
                    rw [show l3.length - 1 = j3 by omega] at g1'
                    have hj0 : (0 : Int) ≤ (j3 : Int) := by omega
                    have hjb : j3 ≤ 140737488355328 := by have := HI.out.pk.2.2.1; omega
                    have hjw : wrap64 (j3 : Int) = (j3 : Int) := by unfold wrap64; omega
                    have hjl : (j3 : Int) < (j3 : Int) + 1 := by omega
                    simp only [hj3]
                    clear hJN hid HA0 f0 f1 hQ hlast hne hlp hlm hj3
                    go_wp2_with fail
                    go_roundw
                    case rel => exact ⟨k + 1, s3, D1, g1, D2, g2, D3, g3, D4, g4, by omega, by go_num, by rw [HNI.out], HNt, ⟨HC.out.1⟩⟩
                    case measure => simp [intOf]; omega
      · have hge : decide (k < xs.length) = false := by simp; omega
        go_wp2_with fail
        go_meet
        exact ⟨s, A1, c1, A2, c2, A3, c3, A4, c4, rfl, HN, HJ⟩
  case rest =>
    obtain ⟨s, A1, c1, A2, c2, A3, c3, A4, c4, rfl, HN, HJ⟩ := hcut
    obtain ⟨b0c, b0f, _, _⟩ := HJ.out.b.all
    clear HN0 HJ0
    go_wp2_with fail
    refine (awake_any _).mono ?_
    rintro e w2 ⟨rfl, hb2⟩
    have HB2 := Aside.mk (below_all HJ.out.below HJ.out.below.size hb2)
    clear hb2
    go_wp2_with fail
    go_ret
    exact ⟨by simp, HB2.out⟩
end Go.Proofs.Ytmeeldcgmfplnaa
