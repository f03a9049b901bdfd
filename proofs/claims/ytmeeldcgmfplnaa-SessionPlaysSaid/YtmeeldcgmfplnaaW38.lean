/-
  Contract of the reference: Answer.
-/
import Derived.Test.YtmeeldcgmfplnaaW36
set_option linter.unusedVariables false
set_option linter.unusedSimpArgs false
namespace Go.Proofs.Ytmeeldcgmfplnaa
open Go.RowKit
attribute [local go_sem] setRow_setCell_same setRow_setCell_other setRow_cell_same setRow_cell_other setRow_frozen setRow_shape
attribute [local go_sem ↓] Go.wp_at_zero Go.wp_at_succ

section
variable {s s' : Ses} {ok : Nat → Prop} {w wx : World} {A1 : Option Addr} {c1 : Nat} {A2 : Option Addr} {c2 : Nat} {A3 : Option Addr} {c3 : Nat} {A4 : Option Addr} {c4 : Nat}
theorem RdSes.from (H : RdSes ok w s A1 c1 A2 c2 A3 c3 A4 c4) (hB : Below w.heap.size w wx) : RdSes (fun b => (ok b ∧ b < w.heap.size) ∨ w.heap.size + 2 ≤ b) wx s A1 c1 A2 c2 A3 c3 A4 c4 :=
  ((H.mono (ok' := fun b => ok b ∧ b < w.heap.size) (fun b hb hlt => ⟨hb, hlt⟩)).below hB).mono (fun b hb _ => .inl hb)
theorem kp_res (a : Array Value) : Kp (fun b => (ok b ∧ b < w.heap.size) ∨ w.heap.size + 2 ≤ b) wx (wx.setRow (w.heap.size + 1) a) := (Kp.refl _ _).put (fun b hb => by rcases hb with hb | hb; (have := hb.2; omega); omega) _
theorem post30_none (hrd : RdSes (fun b => (ok b ∧ b < w.heap.size) ∨ w.heap.size + 2 ≤ b) wx s A1 c1 A2 c2 A3 c3 A4 c4) (hB : Below w.heap.size w wx) (a : Array Value) :
    Post30 (s, []) ok w (.returned (.tuple #[.agg (sesCells s A1 c1 A2 c2 A3 c3 A4 c4), .slice none 0 0])) (wx.setRow (w.heap.size + 1) a) :=
  ⟨_, _, rfl, ⟨A1, c1, A2, c2, A3, c3, A4, c4, rfl, (hrd.move (kp_res a).2).mono (fun b hb _ => hb.imp (fun h => h) (fun h => by omega))⟩, ⟨none, 0, rfl, Sl.nil _ _ _ _⟩, below_put hB (by omega) _⟩
theorem post30_bare (hrd : RdSes (fun b => (ok b ∧ b < w.heap.size) ∨ w.heap.size + 2 ≤ b) wx s A1 c1 A2 c2 A3 c3 A4 c4) (hB : Below w.heap.size w wx) (a : Array Value) (kind id : Int) :
    Post30 (s, [bareP kind id]) ok w (.returned (.tuple #[.agg (sesCells s A1 c1 A2 c2 A3 c3 A4 c4), .slice (some ⟨wx.heap.size, 0, none⟩) 1 1])) ((wx.setRow (w.heap.size + 1) a).alloc (.cells (pktCells (bareP kind id) none 0).toArray 43)) := by
  have hs := hB.size
  refine ⟨_, _, rfl, ⟨A1, c1, A2, c2, A3, c3, A4, c4, rfl, (hrd.move ((kp_res a).alloc _).2).mono (fun b hb _ => hb.imp (fun h => h) (fun h => by omega))⟩, IsPktsIn.bare _ _ wx.heap.size (by simp) kind id (.inr hs), (below_put hB (by omega) _).alloc (by simp; omega) _⟩
theorem post30_refill {r : Ses × List Pkt} {B1 : Option Addr} {d1 : Nat} {B2 : Option Addr} {d2 : Nat} {B3 : Option Addr} {d3 : Nat} {B4 : Option Addr} {d4 : Nat} {Bp : Option Addr} {dp n : Nat} (hn : w.heap.size + 2 ≤ n)
    (hrd : RdSes (fun b => (((ok b ∧ b < w.heap.size) ∨ w.heap.size + 2 ≤ b) ∧ b < n) ∨ n ≤ b) wx r.1 B1 d1 B2 d2 B3 d3 B4 d4) (hpk : Sl 184 kPkt (fun b => (((ok b ∧ b < w.heap.size) ∨ w.heap.size + 2 ≤ b) ∧ b < n) ∨ n ≤ b) wx Bp dp r.2) (hB : Below w.heap.size w wx) (a : Array Value) :
    Post30 r ok w (.returned (.tuple #[.agg (sesCells r.1 B1 d1 B2 d2 B3 d3 B4 d4), .slice Bp r.2.length dp])) (wx.setRow (w.heap.size + 1) a) := by
  have hm : ∀ b, ((((ok b ∧ b < w.heap.size) ∨ w.heap.size + 2 ≤ b) ∧ b < n) ∨ n ≤ b) → ((ok b ∧ b < w.heap.size) ∨ w.heap.size + 2 ≤ b) := fun b hb => hb.elim (fun h => h.1) (fun h => .inr (by omega))
  exact ⟨_, _, rfl, ⟨B1, d1, B2, d2, B3, d3, B4, d4, rfl, ((hrd.mono (fun b hb _ => hm b hb)).move (kp_res a).2).mono (fun b hb _ => hb.imp (fun h => h) (fun h => by omega))⟩, ⟨Bp, dp, rfl, ((hpk.mono (fun b hb _ => hm b hb)).kp (kp_res a)).mono (fun b hb _ => hb.imp (fun h => h) (fun h => by omega))⟩, below_put hB (by omega) _⟩
end

/-- The two blocks of such a function: the session's, the result's. -/
structure RA (s : Ses) (w : World) (A1 : Option Addr) (c1 : Nat) (A2 : Option Addr) (c2 : Nat) (A3 : Option Addr) (c3 : Nat) (A4 : Option Addr) (c4 : Nat) (wx : World) : Prop where
  b0 : Blk wx w.heap.size 27 (sesCells s A1 c1 A2 c2 A3 c3 A4 c4)
  b1 : Blk wx (w.heap.size + 1) 27 zeroSes
  below : Below w.heap.size w wx
theorem RA.far {s : Ses} {w wx w1 : World} {A1 : Option Addr} {c1 : Nat} {A2 : Option Addr} {c2 : Nat} {A3 : Option Addr} {c3 : Nat} {A4 : Option Addr} {c4 : Nat} (h : RA s w A1 c1 A2 c2 A3 c3 A4 c4 wx) (hb : Below wx.heap.size wx w1) : RA s w A1 c1 A2 c2 A3 c3 A4 c4 w1 :=
  ⟨h.b0.belowAll hb, h.b1.belowAll hb, below_all h.below h.below.size hb⟩

/-- What an answer is to a flight. -/
def hitB (kind id : Int) (f : Flt) : Bool := f.id == id && ((kind == 4 && f.m.q == 1) || (kind == 7 && (f.m.q == 2 && f.st == 2)) || (kind == 5 && f.m.q == 2))
theorem hit4 (id : Int) : hitB 4 id = findP id 37 := by funext f; simp [hitB, findP, kindP]
theorem hit5 (id : Int) : hitB 5 id = findP id 38 := by funext f; simp [hitB, findP, kindP]
theorem hit7 (id : Int) : hitB 7 id = findP id 39 := by funext f; simp [hitB, findP, kindP]
theorem find_at {p : Flt → Bool} {xs : List Flt} {k : Nat} {x : Flt} (hx : xs[k]? = some x) (hn : ∀ y ∈ xs.take k, p y = false) (hp : p x = true) : xs.findIdx? p = some k := by
  obtain ⟨hlt, hv⟩ := List.getElem?_eq_some_iff.1 hx
  rw [List.findIdx?_eq_some_iff_getElem]
  refine ⟨hlt, by rw [hv]; exact hp, fun j hj => ?_⟩
  have := hn (xs[j]'(by omega)) (List.mem_iff_getElem.2 ⟨j, by rw [List.length_take]; omega, by rw [List.getElem_take]⟩)
  simpa using this
theorem none_snoc {p : Flt → Bool} {xs : List Flt} {k : Nat} {x : Flt} (hx : xs[k]? = some x) (hn : ∀ y ∈ xs.take k, p y = false) (hp : p x = false) : ∀ y ∈ xs.take (k + 1), p y = false := by
  obtain ⟨hlt, hv⟩ := List.getElem?_eq_some_iff.1 hx
  rw [take_snoc _ _ hlt, hv]
  intro y hy
  rcases List.mem_append.1 hy with hy | hy
  · exact hn y hy
  · rw [List.mem_singleton.1 hy]; exact hp
theorem filter_snoc_keep {xs : List Int} {k : Nat} {x id : Int} (hx : xs[k]? = some x) (h : x ≠ id) : (xs.take (k + 1)).filter (fun x => !(x == id)) = (xs.take k).filter (fun x => !(x == id)) ++ [x] := by
  obtain ⟨hlt, hv⟩ := List.getElem?_eq_some_iff.1 hx
  rw [take_snoc _ _ hlt, hv]
  simp [h]
theorem filter_snoc_drop {xs : List Int} {k : Nat} {x id : Int} (hx : xs[k]? = some x) (h : x = id) : (xs.take (k + 1)).filter (fun x => !(x == id)) = (xs.take k).filter (fun x => !(x == id)) := by
  obtain ⟨hlt, hv⟩ := List.getElem?_eq_some_iff.1 hx
  rw [take_snoc _ _ hlt, hv]
  simp [h]
/-- In the loop over the ids. -/
structure R22i (s : Ses) (id : Int) (w0 : World) (k : Nat) (v : Value) (wx : World) : Prop where
  out : Own 3 kI64 (fun b => w0.heap.size ≤ b) w0.heap.size wx v ((s.ids.take k).filter (fun x => !(x == id)))
  below : Below w0.heap.size w0 wx
theorem RA.free {s : Ses} {id : Int} {ok : Nat → Prop} {w wx : World} {A1 : Option Addr} {c1 : Nat} {A2 : Option Addr} {c2 : Nat} {A3 : Option Addr} {c3 : Nat} {A4 : Option Addr} {c4 : Nat} {A5 : Option Addr} {c5 : Nat} (h : RA s w A1 c1 A2 c2 A3 c3 A4 c4 wx) (H : RdSes ok w s A1 c1 A2 c2 A3 c3 A4 c4) (hS : Sl 8 kI64 (fun b => (ok b ∧ b < w.heap.size) ∨ w.heap.size + 2 ≤ b) wx A5 c5 (s.ids.filter (fun x => !(x == id)))) :
    RA (freeS s id) w A1 c1 A2 c2 A3 c3 A5 c5 (wx.setRow w.heap.size (sesCells (freeS s id) A1 c1 A2 c2 A3 c3 A5 c5)) ∧ RdSes (fun b => (ok b ∧ b < w.heap.size) ∨ w.heap.size + 2 ≤ b) (wx.setRow w.heap.size (sesCells (freeS s id) A1 c1 A2 c2 A3 c3 A5 c5)) (freeS s id) A1 c1 A2 c2 A3 c3 A5 c5 := by
  have hk : Kp (fun b => (ok b ∧ b < w.heap.size) ∨ w.heap.size + 2 ≤ b) wx (wx.setRow w.heap.size (sesCells (freeS s id) A1 c1 A2 c2 A3 c3 A5 c5)) := (Kp.refl _ _).put (fun b hb => by rcases hb with hb | hb; (have := hb.2; omega); omega) _
  have hr := RdSes.from H h.below
  exact ⟨⟨h.b0.put _, h.b1.other (by omega) _, below_put h.below (Nat.le_refl _) _⟩, ⟨hr.subs.kp hk, hr.queue.kp hk, hr.flight.kp hk, hS.kp hk⟩⟩

set_option maxRecDepth 100000 in
set_option maxHeartbeats 8000000 in
theorem refAnswer_low (s : Ses) (A1 : Option Addr) (c1 : Nat) (A2 : Option Addr) (c2 : Nat) (A3 : Option Addr) (c3 : Nat) (A4 : Option Addr) (c4 : Nat) (kind id : Int) (ok : Nat → Prop) (w : World)
    (h : RdSes ok w s A1 c1 A2 c2 A3 c3 A4 c4) (hr : id < 1 ∨ 65535 < id) :
    Calls Try.prog 22 #[.agg (sesCells s A1 c1 A2 c2 A3 c3 A4 c4), .int .i64 kind, .int .i64 id] w (Post30 (answerD s kind id) ok w) := by
  have hl4 := h.ids.2.2.1; have hl3 := h.flight.2.2.1
  have H := Aside.mk h
  clear h
  have HR0 := Aside.mk (show RA s w A1 c1 A2 c2 A3 c3 A4 c4 ((w.alloc (.cells (sesCells s A1 c1 A2 c2 A3 c3 A4 c4) 27)).alloc (.cells zeroSes 27)) from ⟨(Blk.new w 27 _).alloc _, Blk.newAt _ _ (by simp) 27 _, ((Below.refl _ _).alloc (Nat.le_refl _) _).alloc (by simp) _⟩)
  simp only [sesCells]
  go_enter Try.func22, Try.ntmps22
  go_upto_region 1 with fail
  go_cut [19] (fun v wx => v = .bool (decide (id < 1) || decide (65535 < id)) ∧ Aside (RA s w A1 c1 A2 c2 A3 c3 A4 c4 wx))
  case first =>
    by_cases h0 : id < 1
    · go_wp2_with fail
      go_meet
      exact ⟨by simp [h0], HR0⟩
    · have h0' : 1 ≤ id := by omega
      go_wp2_with fail
      go_meet
      exact ⟨by simp; omega, HR0⟩
  case rest =>
    clear HR0
    obtain ⟨rfl, HR0⟩ := hcut
    obtain ⟨b0c, b0f, b0s, b0h⟩ := HR0.out.b0.all
    obtain ⟨b1c, b1f, b1s, b1h⟩ := HR0.out.b1.all
    have HT := Aside.mk (show answerD s kind id = (s, []) by unfold answerD; rw [if_pos hr])
    have hd : (decide (id < 1) || decide (65535 < id)) = true := by rcases hr with h | h <;> simp [h]
    rw [hd]
    clear hd hr
    go_wp2_with fail
    refine bodyPost_ret (res_ct rfl _ _ (w.heap.size + 1) 27 _ _ rfl (HR0.out.b1.put _) Try.underlying27 rfl (by kernel_rfl)) rfl ?_
    rw [HT.out]
    exact post30_none (RdSes.from H.out HR0.out.below) HR0.out.below _

set_option maxRecDepth 100000 in
set_option maxHeartbeats 8000000 in
theorem refAnswer_rel (s : Ses) (A1 : Option Addr) (c1 : Nat) (A2 : Option Addr) (c2 : Nat) (A3 : Option Addr) (c3 : Nat) (A4 : Option Addr) (c4 : Nat) (kind id : Int) (ok : Nat → Prop) (w : World)
    (h : RdSes ok w s A1 c1 A2 c2 A3 c3 A4 c4) (hr1 : 1 ≤ id) (hr2 : id ≤ 65535) (hk6 : kind = 6) :
    Calls Try.prog 22 #[.agg (sesCells s A1 c1 A2 c2 A3 c3 A4 c4), .int .i64 kind, .int .i64 id] w (Post30 (answerD s kind id) ok w) := by
  have hl4 := h.ids.2.2.1; have hl3 := h.flight.2.2.1
  have H := Aside.mk h
  clear h
  subst hk6
  have HR0 := Aside.mk (show RA s w A1 c1 A2 c2 A3 c3 A4 c4 ((w.alloc (.cells (sesCells s A1 c1 A2 c2 A3 c3 A4 c4) 27)).alloc (.cells zeroSes 27)) from ⟨(Blk.new w 27 _).alloc _, Blk.newAt _ _ (by simp) 27 _, ((Below.refl _ _).alloc (Nat.le_refl _) _).alloc (by simp) _⟩)
  simp only [sesCells]
  go_enter Try.func22, Try.ntmps22
  go_upto_region 1 with fail
  go_cut [19] (fun v wx => v = .bool (decide (id < 1) || decide (65535 < id)) ∧ Aside (RA s w A1 c1 A2 c2 A3 c3 A4 c4 wx))
  case first =>
    by_cases h0 : id < 1
    · go_wp2_with fail
      go_meet
      exact ⟨by simp [h0], HR0⟩
    · have h0' : 1 ≤ id := by omega
      go_wp2_with fail
      go_meet
      exact ⟨by simp; omega, HR0⟩
  case rest =>
    clear HR0
    obtain ⟨rfl, HR0⟩ := hcut
    obtain ⟨b0c, b0f, b0s, b0h⟩ := HR0.out.b0.all
    have hd : (decide (id < 1) || decide (65535 < id)) = false := by simp; omega
    have HR := Aside.mk (show ¬ (id < 1 ∨ 65535 < id) by omega)
    rw [hd]
    clear hd hr1 hr2
    have HT := Aside.mk (show answerD s 6 id = (freeS s id, [bareP 7 id]) by unfold answerD; rw [if_neg HR.out, if_neg (by decide), if_neg (by decide), if_neg (by decide), if_pos rfl])
    go_upto_block 0 with (fail)
    go_cut [8] (fun v wx => Aside (R22i s id wc s.ids.length v wx))
    case first =>
      go_wp2_with fail
      go_loopw [8, 26] (fun v i wr => ∃ k : Nat, k ≤ s.ids.length ∧ i = .int .i64 k ∧ Aside (R22i s id wc k v wr)) (fun _ i _ => s.ids.length - (intOf i).toNat)
      case atStart => exact ⟨0, Nat.zero_le _, rfl, ⟨⟨by simpa using Own.nil _ _ _ _ _, Below.refl _ _⟩⟩⟩
      case round =>
        obtain ⟨k, hk, rfl, HJ⟩ := hrel
        clear b0c b0f b0s b0h
        by_cases hlt : k < s.ids.length
        · have hlt' : (k : Int) < (s.ids.length : Int) := by omega
          have hk0 : (0 : Int) ≤ (k : Int) := by omega
          have hx : s.ids[k]? = some s.ids[k] := List.getElem?_eq_getElem hlt
          obtain ⟨ad, rfl, e0⟩ := int_at ((H.out.below HR0.out.below).below HJ.out.below).ids.2.2.2 hlt hx
          generalize s.ids[k] = x at hx e0
          have HX := Aside.mk hx
          clear hx
          by_cases he : x = id
          · have he' : (x == id) = true := by simpa using he
            have HN := Aside.mk (show R22i s id wc (k + 1) u8 wr from ⟨by rw [filter_snoc_drop HX.out he]; exact HJ.out.out, HJ.out.below⟩)
            clear he
            go_wp2_with fail
            go_roundw
            case rel => exact ⟨k + 1, by omega, by go_num, HN⟩
            case measure => simp [intOf]; omega
          · have he' : (x == id) = false := by simpa using he
            have HE := Aside.mk he
            have hfl : ((s.ids.take k).filter (fun x => !(x == id))).length ≤ k := by have := List.length_filter_le (fun x => !(x == id)) (s.ids.take k); rw [List.length_take] at this; omega
            have HFL := Aside.mk hfl
            clear he hfl
            go_wp2_with (at_builtin; go_must (refine wpList_append_Own (P := Try.prog) _ rfl kI64 (.tmp 33) (.tmp 35) 25 3 rfl (.int .i64 0) 8 Try.underlying25 info3 rfl (by decide) (ok := fun b => wc.heap.size ≤ b) (okp := fun _ => False) (lo := wc.heap.size) (v := u8) (xs := (s.ids.take k).filter (fun x => !(x == id))) (ys := [x]) rfl ?c0 (A := some ⟨wr.heap.size, 0, none⟩) (m := 1) (c := 1) rfl ?c1 ?c2 ?c3 ?c4 ?c5 ?_))
            case c0 => exact HJ.out.out.below ((Below.refl _ _).alloc (Nat.le_refl _) _)
            case c1 => exact Cf_litAt kI64 (okp := fun _ => False) wr.heap.size rfl [.int .i64 x] 3 rfl
            case c2 => exact fun b hb _ => hb.elim
            case c3 => exact fun b hb => by have := HJ.out.below.size; simp at hb; omega
            case c4 => have := HJ.out.below.size; simp; omega
            case c5 => have := HFL.out; rw [List.length_singleton]; omega
            intro v2 w2 hO hg hat
            have HN := Aside.mk (show R22i s id wc (k + 1) v2 w2 from ⟨by rw [filter_snoc_keep HX.out HE.out]; exact hO, by
              have h1 := below_all HJ.out.below HJ.out.below.size ((Below.refl wr.heap.size wr).alloc (Nat.le_refl _) (.cells #[.int .i64 x] 3))
              exact h1.grown hg h1.size (fun b hb => (HJ.out.out.ge b hb).1)⟩)
            clear hO hg hat
            go_wp2_with fail
            go_roundw
            case rel => exact ⟨k + 1, by omega, by go_num, HN⟩
            case measure => simp [intOf]; omega
        · have hke : k = s.ids.length := by omega
          have hge : decide (k < s.ids.length) = false := by simp; omega
          subst hke
          go_wp2_with fail
          go_meet
          exact HJ
    case rest =>
      have HJ := hcut
      clear b0c b0f b0s b0h
      have HR1 := Aside.mk (HR0.out.far HJ.out.below)
      have hsz : w.heap.size + 1 < wc.heap.size := HR1.out.b1.lt
      have hsz0 : w.heap.size < wc.heap.size := by omega
      have hne1 : ¬ w.heap.size + 1 = wc.heap.size := by omega
      have hne0 : ¬ w.heap.size = wc.heap.size := by omega
      have HO := HJ.out.out
      rw [List.take_length] at HO
      obtain ⟨A5, c5, hv, hS⟩ := HO.reads (bytes := 8) (by have := List.length_filter_le (fun x => !(x == id)) s.ids; omega)
      subst hv
      have hS' := hS.mono (ok' := fun b => (ok b ∧ b < w.heap.size) ∨ w.heap.size + 2 ≤ b) (fun b hb _ => .inr (by have := HR0.out.b1.lt; omega))
      have HS := Aside.mk hS'
      obtain ⟨b0c, b0f, b0s, b0h⟩ := HR1.out.b0.all
      obtain ⟨b1c, b1f, b1s, b1h⟩ := HR1.out.b1.all
      have hne : ¬ w.heap.size = w.heap.size + 1 := by omega
      clear HO hS hS' hcut
      go_upto_region 12 with fail
      obtain ⟨wy, hwy⟩ : ∃ wy, wy = wc.setRow w.heap.size #[.string s.cl, .slice A1 s.subs.length c1, .slice A2 s.queue.length c2, .slice A3 s.flight.length c3, .slice A5 (s.ids.filter (fun x => !(x == id))).length c5, .int .i64 s.nid, .int .i64 s.hd, .int .i64 s.snt] := ⟨_, rfl⟩
      rw [← hwy]
      have HRF := Aside.mk (show RA (freeS s id) w A1 c1 A2 c2 A3 c3 A5 c5 wy ∧ RdSes (fun b => (ok b ∧ b < w.heap.size) ∨ w.heap.size + 2 ≤ b) wy (freeS s id) A1 c1 A2 c2 A3 c3 A5 c5 by rw [hwy]; exact RA.free HR1.out H.out HS.out)
      clear hwy b0c b0f b0s b0h b1c b1f b1s b1h hsz hsz0 hne1 hne0
      obtain ⟨b0c, b0f, b0s, b0h⟩ := HRF.out.1.b0.all
      obtain ⟨b1c, b1f, b1s, b1h⟩ := HRF.out.1.b1.all
      have hsz : w.heap.size + 1 < wy.heap.size := HRF.out.1.b1.lt
      have hsz0 : w.heap.size < wy.heap.size := by omega
      have hne1 : ¬ w.heap.size + 1 = wy.heap.size := by omega
      have hne0 : ¬ w.heap.size = wy.heap.size := by omega
      go_wp2_with fail
      refine bodyPost_ret (res_ct rfl _ _ (w.heap.size + 1) 27 _ _ rfl ((HRF.out.1.b1.put _).alloc _) Try.underlying27 rfl (by kernel_rfl)) rfl ?_
      rw [HT.out]
      exact post30_bare HRF.out.2 HRF.out.1.below _ 7 id

theorem answer_done4 {s : Ses} {id : Int} {k : Nat} (hr : ¬ (id < 1 ∨ 65535 < id)) (hf : s.flight.findIdx? (hitB 4 id) = some k) : answerD s 4 id = refillD (lessS s k) := by
  rw [hit4] at hf
  unfold answerD
  rw [if_neg hr, if_pos rfl, hf]
  rfl
theorem answer_done7 {s : Ses} {id : Int} {k : Nat} (hr : ¬ (id < 1 ∨ 65535 < id)) (hf : s.flight.findIdx? (hitB 7 id) = some k) : answerD s 7 id = refillD (lessS s k) := by
  rw [hit7] at hf
  unfold answerD
  rw [if_neg hr, if_neg (by decide), if_neg (by decide), if_pos rfl, hf]
  rfl
theorem answer_got {s : Ses} {id : Int} {k : Nat} (hr : ¬ (id < 1 ∨ 65535 < id)) (hf : s.flight.findIdx? (hitB 5 id) = some k) : answerD s 5 id = (gotS s k, [bareP 6 id]) := by
  rw [hit5] at hf
  unfold answerD
  rw [if_neg hr, if_neg (by decide), if_pos rfl, hf]
theorem answer_none {s : Ses} {kind id : Int} (hr : ¬ (id < 1 ∨ 65535 < id)) (h6 : kind ≠ 6) (hn : ∀ y ∈ s.flight, hitB kind id y = false) : answerD s kind id = (s, if kind = 5 then [bareP 6 id] else []) := by
  have hf : s.flight.findIdx? (hitB kind id) = none := List.findIdx?_eq_none_iff.2 hn
  unfold answerD
  rw [if_neg hr]
  by_cases h4 : kind = 4
  · subst h4
    rw [hit4] at hf
    rw [if_pos rfl, hf]
    rfl
  · rw [if_neg h4]
    by_cases h5 : kind = 5
    · subst h5
      rw [hit5] at hf
      rw [if_pos rfl, hf]
      rfl
    · rw [if_neg h5, if_neg h5]
      by_cases h7 : kind = 7
      · subst h7
        rw [hit7] at hf
        rw [if_pos rfl, hf]
        rfl
      · rw [if_neg h7, if_neg h6]
theorem RA.flights {s : Ses} {fs : List Flt} {ok : Nat → Prop} {w wx : World} {A1 : Option Addr} {c1 : Nat} {A2 : Option Addr} {c2 : Nat} {A3 : Option Addr} {c3 : Nat} {A4 : Option Addr} {c4 : Nat} {A5 : Option Addr} {c5 : Nat} (h : RA s w A1 c1 A2 c2 A3 c3 A4 c4 wx) (H : RdSes ok w s A1 c1 A2 c2 A3 c3 A4 c4) (hS : Sl 88 kFlt (fun b => (ok b ∧ b < w.heap.size) ∨ w.heap.size + 2 ≤ b) wx A5 c5 fs) :
    RA { s with flight := fs } w A1 c1 A2 c2 A5 c5 A4 c4 (wx.setRow w.heap.size (sesCells { s with flight := fs } A1 c1 A2 c2 A5 c5 A4 c4)) ∧ RdSes (fun b => (ok b ∧ b < w.heap.size) ∨ w.heap.size + 2 ≤ b) (wx.setRow w.heap.size (sesCells { s with flight := fs } A1 c1 A2 c2 A5 c5 A4 c4)) { s with flight := fs } A1 c1 A2 c2 A5 c5 A4 c4 := by
  have hk : Kp (fun b => (ok b ∧ b < w.heap.size) ∨ w.heap.size + 2 ≤ b) wx (wx.setRow w.heap.size (sesCells { s with flight := fs } A1 c1 A2 c2 A5 c5 A4 c4)) := (Kp.refl _ _).put (fun b hb => by rcases hb with hb | hb; (have := hb.2; omega); omega) _
  have hr := RdSes.from H h.below
  exact ⟨⟨h.b0.put _, h.b1.other (by omega) _, below_put h.below (Nat.le_refl _) _⟩, ⟨hr.subs.kp hk, hr.queue.kp hk, hS.kp hk, hr.ids.kp hk⟩⟩
theorem RA.got {s : Ses} {k : Nat} {ok : Nat → Prop} {w wx : World} {A1 : Option Addr} {c1 : Nat} {A2 : Option Addr} {c2 : Nat} {A3 : Option Addr} {c3 : Nat} {A4 : Option Addr} {c4 : Nat} {A5 : Option Addr} {c5 : Nat} (h : RA s w A1 c1 A2 c2 A3 c3 A4 c4 wx) (H : RdSes ok w s A1 c1 A2 c2 A3 c3 A4 c4) (hS : Sl 88 kFlt (fun b => (ok b ∧ b < w.heap.size) ∨ w.heap.size + 2 ≤ b) wx A5 c5 (s.flight.modify k gotF)) :
    RA (gotS s k) w A1 c1 A2 c2 A5 c5 A4 c4 (wx.setRow w.heap.size #[.string s.cl, .slice A1 s.subs.length c1, .slice A2 s.queue.length c2, .slice A5 s.flight.length c5, .slice A4 s.ids.length c4, .int .i64 s.nid, .int .i64 s.hd, .int .i64 s.snt]) ∧ RdSes (fun b => (ok b ∧ b < w.heap.size) ∨ w.heap.size + 2 ≤ b) (wx.setRow w.heap.size #[.string s.cl, .slice A1 s.subs.length c1, .slice A2 s.queue.length c2, .slice A5 s.flight.length c5, .slice A4 s.ids.length c4, .int .i64 s.nid, .int .i64 s.hd, .int .i64 s.snt]) (gotS s k) A1 c1 A2 c2 A5 c5 A4 c4 := by
  have := RA.flights (fs := s.flight.modify k gotF) h H hS
  unfold sesCells at this
  simp only [List.length_modify] at this
  exact this
theorem RA.side {s : Ses} {w wx : World} {A1 : Option Addr} {c1 : Nat} {A2 : Option Addr} {c2 : Nat} {A3 : Option Addr} {c3 : Nat} {A4 : Option Addr} {c4 : Nat} (h : RA s w A1 c1 A2 c2 A3 c3 A4 c4 wx) {g : Nat} (hg : w.heap.size + 2 ≤ g) (a : Array Value) : RA s w A1 c1 A2 c2 A3 c3 A4 c4 (wx.setRow g a) :=
  ⟨h.b0.other (by omega) _, h.b1.other (by omega) _, below_put h.below (by omega) _⟩

set_option maxRecDepth 100000 in
set_option maxHeartbeats 8000000 in
theorem refAnswer_k0 (s : Ses) (A1 : Option Addr) (c1 : Nat) (A2 : Option Addr) (c2 : Nat) (A3 : Option Addr) (c3 : Nat) (A4 : Option Addr) (c4 : Nat) (kind id : Int) (ok : Nat → Prop) (w : World)
    (h : RdSes ok w s A1 c1 A2 c2 A3 c3 A4 c4) (hr1 : 1 ≤ id) (hr2 : id ≤ 65535) (hkn : kind ≠ 4 ∧ kind ≠ 5 ∧ kind ≠ 7 ∧ kind ≠ 6) :
    Calls Try.prog 22 #[.agg (sesCells s A1 c1 A2 c2 A3 c3 A4 c4), .int .i64 kind, .int .i64 id] w (Post30 (answerD s kind id) ok w) := by
  have hl4 := h.ids.2.2.1; have hl3 := h.flight.2.2.1
  have H := Aside.mk h
  clear h
  have HR0 := Aside.mk (show RA s w A1 c1 A2 c2 A3 c3 A4 c4 ((w.alloc (.cells (sesCells s A1 c1 A2 c2 A3 c3 A4 c4) 27)).alloc (.cells zeroSes 27)) from ⟨(Blk.new w 27 _).alloc _, Blk.newAt _ _ (by simp) 27 _, ((Below.refl _ _).alloc (Nat.le_refl _) _).alloc (by simp) _⟩)
  simp only [sesCells]
  go_enter Try.func22, Try.ntmps22
  go_upto_region 1 with fail
  go_cut [19] (fun v wx => v = .bool (decide (id < 1) || decide (65535 < id)) ∧ Aside (RA s w A1 c1 A2 c2 A3 c3 A4 c4 wx))
  case first =>
    by_cases h0 : id < 1
    · go_wp2_with fail
      go_meet
      exact ⟨by simp [h0], HR0⟩
    · have h0' : 1 ≤ id := by omega
      go_wp2_with fail
      go_meet
      exact ⟨by simp; omega, HR0⟩
  case rest =>
    clear HR0
    obtain ⟨rfl, HR0⟩ := hcut
    obtain ⟨b0c, b0f, b0s, b0h⟩ := HR0.out.b0.all
    have hd : (decide (id < 1) || decide (65535 < id)) = false := by simp; omega
    have HR := Aside.mk (show ¬ (id < 1 ∨ 65535 < id) by omega)
    rw [hd]
    clear hd hr1 hr2
    have hk4 : (kind == 4) = false := by simpa using (show kind ≠ 4 from hkn.1)
    have hk5 : (kind == 5) = false := by simpa using hkn.2.1
    have hk7 : (kind == 7) = false := by simpa using hkn.2.2.1
    have hk6 : (kind == 6) = false := by simpa using hkn.2.2.2
    have HKN := Aside.mk hkn
    clear hkn
    go_upto_block 2 with (fail)
    go_cut [] (fun wx => (∀ y ∈ s.flight, hitB kind id y = false) ∧ Aside (RA s w A1 c1 A2 c2 A3 c3 A4 c4 wx))
    case first =>
      go_wp2_with fail
      go_loopw [47] (fun i wr => ∃ k : Nat, k ≤ s.flight.length ∧ i = .int .i64 k ∧ Aside (∀ y ∈ s.flight.take k, hitB kind id y = false) ∧ Aside (RA s w A1 c1 A2 c2 A3 c3 A4 c4 wr)) (fun i _ => s.flight.length - (intOf i).toNat)
      case atStart => exact ⟨0, Nat.zero_le _, rfl, ⟨fun y hy => by simp at hy⟩, HR0⟩
      case round =>
        obtain ⟨k, hk, rfl, HNO, HJ⟩ := hrel
        clear b0c b0f b0s b0h
        obtain ⟨b0c, b0f, b0s, b0h⟩ := HJ.out.b0.all
        by_cases hlt : k < s.flight.length
        · have hlt' : (k : Int) < (s.flight.length : Int) := by omega
          have hk0 : (0 : Int) ≤ (k : Int) := by omega
          have hx : s.flight[k]? = some s.flight[k] := List.getElem?_eq_getElem hlt
          obtain ⟨ad, A', c', hAd, hP, hw, e0, e1, e2, e3, e4, e5, e6, e7⟩ := flt_at (H.out.below HJ.out.below).flight.2.2.2 hlt hx
          obtain rfl := hAd
          generalize s.flight[k] = x at hx hP hw e0 e1 e2 e3 e4 e5 e6 e7
          have HX := Aside.mk hx; have HP := Aside.mk hP
          clear hx hP hw
          by_cases he : x.id = id
          · have he' : (x.id != id) = false := by simpa using he
            have hkc : True := trivial
            have HN := Aside.mk (none_snoc HX.out HNO.out (by unfold hitB; simp [hk4, hk5, hk7]))
            go_wp2_with fail
            go_roundw
            case rel => exact ⟨k + 1, by omega, by go_num, HN, ⟨HJ.out.far ((Below.refl _ _).alloc (Nat.le_refl _) _)⟩⟩
            case measure => simp [intOf]; omega
          · have he' : (x.id != id) = true := by simpa using he
            have HE := Aside.mk he
            clear he
            have HN := Aside.mk (none_snoc HX.out HNO.out (by unfold hitB; simp [HE.out]))
            go_wp2_with fail
            go_roundw
            case rel => exact ⟨k + 1, by omega, by go_num, HN, ⟨HJ.out.far ((Below.refl _ _).alloc (Nat.le_refl _) _)⟩⟩
            case measure => simp [intOf]; omega
        · have hke : k = s.flight.length := by omega
          have hge : decide (k < s.flight.length) = false := by simp; omega
          subst hke
          go_wp2_with fail
          go_meet
          exact ⟨by have := HNO.out; rwa [List.take_length] at this, HJ⟩
    case rest =>
      obtain ⟨hno, HJ⟩ := hcut
      clear b0c b0f b0s b0h
      have HT := Aside.mk (answer_none HR.out HKN.out.2.2.2 hno)
      obtain ⟨b0c, b0f, b0s, b0h⟩ := HJ.out.b0.all
      obtain ⟨b1c, b1f, b1s, b1h⟩ := HJ.out.b1.all
      have hsz : w.heap.size + 1 < wc.heap.size := HJ.out.b1.lt
      have hsz0 : w.heap.size < wc.heap.size := by omega
      have hne1 : ¬ w.heap.size + 1 = wc.heap.size := by omega
      have hne0 : ¬ w.heap.size = wc.heap.size := by omega
      clear hno
      go_wp2_with fail
      refine bodyPost_ret (res_ct rfl _ _ (w.heap.size + 1) 27 _ _ rfl (HJ.out.b1.put _) Try.underlying27 rfl (by kernel_rfl)) rfl ?_
      rw [HT.out, if_neg HKN.out.2.1]
      exact post30_none (RdSes.from H.out HJ.out.below) HJ.out.below _

set_option maxRecDepth 100000 in
set_option maxHeartbeats 8000000 in
theorem refAnswer_k4 (s : Ses) (A1 : Option Addr) (c1 : Nat) (A2 : Option Addr) (c2 : Nat) (A3 : Option Addr) (c3 : Nat) (A4 : Option Addr) (c4 : Nat) (id : Int) (ok : Nat → Prop) (w : World)
    (h : RdSes ok w s A1 c1 A2 c2 A3 c3 A4 c4) (hr1 : 1 ≤ id) (hr2 : id ≤ 65535) :
    Calls Try.prog 22 #[.agg (sesCells s A1 c1 A2 c2 A3 c3 A4 c4), .int .i64 4, .int .i64 id] w (Post30 (answerD s 4 id) ok w) := by
  have hl4 := h.ids.2.2.1; have hl3 := h.flight.2.2.1
  have H := Aside.mk h
  clear h
  have HR0 := Aside.mk (show RA s w A1 c1 A2 c2 A3 c3 A4 c4 ((w.alloc (.cells (sesCells s A1 c1 A2 c2 A3 c3 A4 c4) 27)).alloc (.cells zeroSes 27)) from ⟨(Blk.new w 27 _).alloc _, Blk.newAt _ _ (by simp) 27 _, ((Below.refl _ _).alloc (Nat.le_refl _) _).alloc (by simp) _⟩)
  simp only [sesCells]
  go_enter Try.func22, Try.ntmps22
  go_upto_region 1 with fail
  go_cut [19] (fun v wx => v = .bool (decide (id < 1) || decide (65535 < id)) ∧ Aside (RA s w A1 c1 A2 c2 A3 c3 A4 c4 wx))
  case first =>
    by_cases h0 : id < 1
    · go_wp2_with fail
      go_meet
      exact ⟨by simp [h0], HR0⟩
    · have h0' : 1 ≤ id := by omega
      go_wp2_with fail
      go_meet
      exact ⟨by simp; omega, HR0⟩
  case rest =>
    clear HR0
    obtain ⟨rfl, HR0⟩ := hcut
    obtain ⟨b0c, b0f, b0s, b0h⟩ := HR0.out.b0.all
    have hd : (decide (id < 1) || decide (65535 < id)) = false := by simp; omega
    have HR := Aside.mk (show ¬ (id < 1 ∨ 65535 < id) by omega)
    rw [hd]
    clear hd hr1 hr2
    go_upto_block 2 with (fail)
    go_cut [] (fun wx => (∀ y ∈ s.flight, hitB 4 id y = false) ∧ Aside (RA s w A1 c1 A2 c2 A3 c3 A4 c4 wx))
    case first =>
      go_wp2_with fail
      go_loopw [47] (fun i wr => ∃ k : Nat, k ≤ s.flight.length ∧ i = .int .i64 k ∧ Aside (∀ y ∈ s.flight.take k, hitB 4 id y = false) ∧ Aside (RA s w A1 c1 A2 c2 A3 c3 A4 c4 wr)) (fun i _ => s.flight.length - (intOf i).toNat)
      case atStart => exact ⟨0, Nat.zero_le _, rfl, ⟨fun y hy => by simp at hy⟩, HR0⟩
      case round =>
        obtain ⟨k, hk, rfl, HNO, HJ⟩ := hrel
        clear b0c b0f b0s b0h
        obtain ⟨b0c, b0f, b0s, b0h⟩ := HJ.out.b0.all
        by_cases hlt : k < s.flight.length
        · have hlt' : (k : Int) < (s.flight.length : Int) := by omega
          have hk0 : (0 : Int) ≤ (k : Int) := by omega
          have hx : s.flight[k]? = some s.flight[k] := List.getElem?_eq_getElem hlt
          obtain ⟨ad, A', c', hAd, hP, hw, e0, e1, e2, e3, e4, e5, e6, e7⟩ := flt_at (H.out.below HJ.out.below).flight.2.2.2 hlt hx
          obtain rfl := hAd
          generalize s.flight[k] = x at hx hP hw e0 e1 e2 e3 e4 e5 e6 e7
          have HX := Aside.mk hx; have HP := Aside.mk hP
          clear hx hP hw
          by_cases he : x.id = id
          · have he' : (x.id != id) = false := by simpa using he
            have hkc : True := trivial
            by_cases hq : x.m.q = 1
            · have hqb : (x.m.q == 1) = true := by simpa using hq
              have HQ := Aside.mk hq
              have HE := Aside.mk he
              clear hq he
              have HT := Aside.mk (answer_done4 HR.out (find_at HX.out HNO.out (by unfold hitB; simp [HE.out, HQ.out])))
              have HRa := Aside.mk (HJ.out.far ((Below.refl _ _).alloc (Nat.le_refl _) (.cells (fltCells x A' c').toArray 50)))
              have hlr : w.heap.size < wr.heap.size := HJ.out.b0.lt
              have hner : ¬ w.heap.size = wr.heap.size := by omega
              clear hkc
              go_wp2_with fail
              refine (refWithout_any s.flight (some ad) c3 k hlt (fun b => ok b ∧ b < w.heap.size) _ ((H.out.flight.mono (fun b hb hlt => ⟨hb, hlt⟩)).below HRa.out.below)).mono ?_
              rintro e w1 ⟨A5, c5, rfl, hS, hb1⟩
              have HR1 := Aside.mk (HRa.out.far hb1)
              have HS := Aside.mk (hS.mono (ok' := fun b => (ok b ∧ b < w.heap.size) ∨ w.heap.size + 2 ≤ b) (fun b hb _ => hb.elim (fun h => .inl h.1) (fun h => .inr (by have := HJ.out.b1.lt; simp at h; omega))))
              clear hS hb1 b0c b0f b0s b0h
              obtain ⟨b0c, b0f, b0s, b0h⟩ := HR1.out.b0.all
              go_upto_region 20 with fail
              obtain ⟨wy, hwy⟩ : ∃ wy, wy = w1.setRow w.heap.size #[.string s.cl, .slice A1 s.subs.length c1, .slice A2 s.queue.length c2, .slice A5 (s.flight.eraseIdx k).length c5, .slice A4 s.ids.length c4, .int .i64 s.nid, .int .i64 s.hd, .int .i64 s.snt] := ⟨_, rfl⟩
              rw [← hwy]
              have HRF := Aside.mk (show RA (lessS s k) w A1 c1 A2 c2 A5 c5 A4 c4 wy ∧ RdSes (fun b => (ok b ∧ b < w.heap.size) ∨ w.heap.size + 2 ≤ b) wy (lessS s k) A1 c1 A2 c2 A5 c5 A4 c4 by rw [hwy]; exact RA.flights (fs := s.flight.eraseIdx k) HR1.out H.out HS.out)
              clear hwy b0c b0f b0s b0h
              obtain ⟨b0c, b0f, b0s, b0h⟩ := HRF.out.1.b0.all
              obtain ⟨b1c, b1f, b1s, b1h⟩ := HRF.out.1.b1.all
              have hsz : w.heap.size + 1 < wy.heap.size := HRF.out.1.b1.lt
              have hsz0 : w.heap.size < wy.heap.size := by omega
              have hne1 : ¬ w.heap.size + 1 = wy.heap.size := by omega
              have hne0 : ¬ w.heap.size = wy.heap.size := by omega
              go_wp2_with fail
              refine (refRefill_any (lessS s k) A1 c1 A2 c2 A5 c5 A4 c4 (fun b => (ok b ∧ b < w.heap.size) ∨ w.heap.size + 2 ≤ b) wy HRF.out.2).mono ?_
              rintro e w2 ⟨vs, vp, rfl, ⟨D1, g1, D2, g2, D3, g3, D4, g4, rfl, hrd⟩, ⟨Bp, dp, rfl, hpk⟩, hb2⟩
              have K1 := Aside.mk (HRF.out.1.b1.belowAll hb2)
              have HRD := Aside.mk hrd; have HPK := Aside.mk hpk
              have HB2 := Aside.mk (below_all HRF.out.1.below HRF.out.1.below.size hb2)
              obtain ⟨k1c, k1f, k1s, k1h⟩ := K1.out.all
              clear hrd hpk hb2 b0c b0f b0s b0h b1c b1f b1s b1h hne0 hne1
              simp only [sesCells]
              go_wp2_with fail
              refine bodyPost_ret (res_ct rfl _ _ (w.heap.size + 1) 27 _ _ rfl (K1.out.put _) Try.underlying27 rfl (by kernel_rfl)) rfl ?_
              rw [HT.out]
              exact post30_refill (by omega) HRD.out HPK.out HB2.out _
            · have hqb : (x.m.q == 1) = false := by simpa using hq
              have HN := Aside.mk (none_snoc HX.out HNO.out (by unfold hitB; simp [hq]))
              go_wp2_with fail
              go_roundw
              case rel => exact ⟨k + 1, by omega, by go_num, HN, ⟨HJ.out.far ((Below.refl _ _).alloc (Nat.le_refl _) _)⟩⟩
              case measure => simp [intOf]; omega
          · have he' : (x.id != id) = true := by simpa using he
            have HE := Aside.mk he
            clear he
            have HN := Aside.mk (none_snoc HX.out HNO.out (by unfold hitB; simp [HE.out]))
            go_wp2_with fail
            go_roundw
            case rel => exact ⟨k + 1, by omega, by go_num, HN, ⟨HJ.out.far ((Below.refl _ _).alloc (Nat.le_refl _) _)⟩⟩
            case measure => simp [intOf]; omega
        · have hke : k = s.flight.length := by omega
          have hge : decide (k < s.flight.length) = false := by simp; omega
          subst hke
          go_wp2_with fail
          go_meet
          exact ⟨by have := HNO.out; rwa [List.take_length] at this, HJ⟩
    case rest =>
      obtain ⟨hno, HJ⟩ := hcut
      clear b0c b0f b0s b0h
      have HT := Aside.mk (answer_none HR.out (by decide) hno)
      obtain ⟨b0c, b0f, b0s, b0h⟩ := HJ.out.b0.all
      obtain ⟨b1c, b1f, b1s, b1h⟩ := HJ.out.b1.all
      have hsz : w.heap.size + 1 < wc.heap.size := HJ.out.b1.lt
      have hsz0 : w.heap.size < wc.heap.size := by omega
      have hne1 : ¬ w.heap.size + 1 = wc.heap.size := by omega
      have hne0 : ¬ w.heap.size = wc.heap.size := by omega
      clear hno
      go_wp2_with fail
      refine bodyPost_ret (res_ct rfl _ _ (w.heap.size + 1) 27 _ _ rfl (HJ.out.b1.put _) Try.underlying27 rfl (by kernel_rfl)) rfl ?_
      rw [HT.out, if_neg (by decide)]
      exact post30_none (RdSes.from H.out HJ.out.below) HJ.out.below _

set_option maxRecDepth 100000 in
set_option maxHeartbeats 8000000 in
theorem refAnswer_k7 (s : Ses) (A1 : Option Addr) (c1 : Nat) (A2 : Option Addr) (c2 : Nat) (A3 : Option Addr) (c3 : Nat) (A4 : Option Addr) (c4 : Nat) (id : Int) (ok : Nat → Prop) (w : World)
    (h : RdSes ok w s A1 c1 A2 c2 A3 c3 A4 c4) (hr1 : 1 ≤ id) (hr2 : id ≤ 65535) :
    Calls Try.prog 22 #[.agg (sesCells s A1 c1 A2 c2 A3 c3 A4 c4), .int .i64 7, .int .i64 id] w (Post30 (answerD s 7 id) ok w) := by
  have hl4 := h.ids.2.2.1; have hl3 := h.flight.2.2.1
  have H := Aside.mk h
  clear h
  have HR0 := Aside.mk (show RA s w A1 c1 A2 c2 A3 c3 A4 c4 ((w.alloc (.cells (sesCells s A1 c1 A2 c2 A3 c3 A4 c4) 27)).alloc (.cells zeroSes 27)) from ⟨(Blk.new w 27 _).alloc _, Blk.newAt _ _ (by simp) 27 _, ((Below.refl _ _).alloc (Nat.le_refl _) _).alloc (by simp) _⟩)
  simp only [sesCells]
  go_enter Try.func22, Try.ntmps22
  go_upto_region 1 with fail
  go_cut [19] (fun v wx => v = .bool (decide (id < 1) || decide (65535 < id)) ∧ Aside (RA s w A1 c1 A2 c2 A3 c3 A4 c4 wx))
  case first =>
    by_cases h0 : id < 1
    · go_wp2_with fail
      go_meet
      exact ⟨by simp [h0], HR0⟩
    · have h0' : 1 ≤ id := by omega
      go_wp2_with fail
      go_meet
      exact ⟨by simp; omega, HR0⟩
  case rest =>
    clear HR0
    obtain ⟨rfl, HR0⟩ := hcut
    obtain ⟨b0c, b0f, b0s, b0h⟩ := HR0.out.b0.all
    have hd : (decide (id < 1) || decide (65535 < id)) = false := by simp; omega
    have HR := Aside.mk (show ¬ (id < 1 ∨ 65535 < id) by omega)
    rw [hd]
    clear hd hr1 hr2
    go_upto_block 2 with (fail)
    go_cut [] (fun wx => (∀ y ∈ s.flight, hitB 7 id y = false) ∧ Aside (RA s w A1 c1 A2 c2 A3 c3 A4 c4 wx))
    case first =>
      go_wp2_with fail
      go_loopw [47] (fun i wr => ∃ k : Nat, k ≤ s.flight.length ∧ i = .int .i64 k ∧ Aside (∀ y ∈ s.flight.take k, hitB 7 id y = false) ∧ Aside (RA s w A1 c1 A2 c2 A3 c3 A4 c4 wr)) (fun i _ => s.flight.length - (intOf i).toNat)
      case atStart => exact ⟨0, Nat.zero_le _, rfl, ⟨fun y hy => by simp at hy⟩, HR0⟩
      case round =>
        obtain ⟨k, hk, rfl, HNO, HJ⟩ := hrel
        clear b0c b0f b0s b0h
        obtain ⟨b0c, b0f, b0s, b0h⟩ := HJ.out.b0.all
        by_cases hlt : k < s.flight.length
        · have hlt' : (k : Int) < (s.flight.length : Int) := by omega
          have hk0 : (0 : Int) ≤ (k : Int) := by omega
          have hx : s.flight[k]? = some s.flight[k] := List.getElem?_eq_getElem hlt
          obtain ⟨ad, A', c', hAd, hP, hw, e0, e1, e2, e3, e4, e5, e6, e7⟩ := flt_at (H.out.below HJ.out.below).flight.2.2.2 hlt hx
          obtain rfl := hAd
          generalize s.flight[k] = x at hx hP hw e0 e1 e2 e3 e4 e5 e6 e7
          have HX := Aside.mk hx; have HP := Aside.mk hP
          clear hx hP hw
          by_cases he : x.id = id
          · have he' : (x.id != id) = false := by simpa using he
            have hkc : True := trivial
            by_cases hq : x.m.q = 2
            · have hqb : (x.m.q == 2) = true := by simpa using hq
              by_cases hst : x.st = 2
              · have hsb : (x.st == 2) = true := by simpa using hst
                have HQ := Aside.mk hq
                have HE := Aside.mk he
                have HST := Aside.mk hst
                clear hq he hst
                have HT := Aside.mk (answer_done7 HR.out (find_at HX.out HNO.out (by unfold hitB; simp [HE.out, HQ.out, HST.out])))
                have HRa := Aside.mk (HJ.out.far ((Below.refl _ _).alloc (Nat.le_refl _) (.cells (fltCells x A' c').toArray 50)))
                have hlr : w.heap.size < wr.heap.size := HJ.out.b0.lt
                have hner : ¬ w.heap.size = wr.heap.size := by omega
                clear hkc
                go_wp2_with fail
                refine (refWithout_any s.flight (some ad) c3 k hlt (fun b => ok b ∧ b < w.heap.size) _ ((H.out.flight.mono (fun b hb hlt => ⟨hb, hlt⟩)).below HRa.out.below)).mono ?_
                rintro e w1 ⟨A5, c5, rfl, hS, hb1⟩
                have HR1 := Aside.mk (HRa.out.far hb1)
                have HS := Aside.mk (hS.mono (ok' := fun b => (ok b ∧ b < w.heap.size) ∨ w.heap.size + 2 ≤ b) (fun b hb _ => hb.elim (fun h => .inl h.1) (fun h => .inr (by have := HJ.out.b1.lt; simp at h; omega))))
                clear hS hb1 b0c b0f b0s b0h
                obtain ⟨b0c, b0f, b0s, b0h⟩ := HR1.out.b0.all
                go_upto_region 20 with fail
                obtain ⟨wy, hwy⟩ : ∃ wy, wy = w1.setRow w.heap.size #[.string s.cl, .slice A1 s.subs.length c1, .slice A2 s.queue.length c2, .slice A5 (s.flight.eraseIdx k).length c5, .slice A4 s.ids.length c4, .int .i64 s.nid, .int .i64 s.hd, .int .i64 s.snt] := ⟨_, rfl⟩
                rw [← hwy]
                have HRF := Aside.mk (show RA (lessS s k) w A1 c1 A2 c2 A5 c5 A4 c4 wy ∧ RdSes (fun b => (ok b ∧ b < w.heap.size) ∨ w.heap.size + 2 ≤ b) wy (lessS s k) A1 c1 A2 c2 A5 c5 A4 c4 by rw [hwy]; exact RA.flights (fs := s.flight.eraseIdx k) HR1.out H.out HS.out)
                clear hwy b0c b0f b0s b0h
                obtain ⟨b0c, b0f, b0s, b0h⟩ := HRF.out.1.b0.all
                obtain ⟨b1c, b1f, b1s, b1h⟩ := HRF.out.1.b1.all
                have hsz : w.heap.size + 1 < wy.heap.size := HRF.out.1.b1.lt
                have hsz0 : w.heap.size < wy.heap.size := by omega
                have hne1 : ¬ w.heap.size + 1 = wy.heap.size := by omega
                have hne0 : ¬ w.heap.size = wy.heap.size := by omega
                go_wp2_with fail
                refine (refRefill_any (lessS s k) A1 c1 A2 c2 A5 c5 A4 c4 (fun b => (ok b ∧ b < w.heap.size) ∨ w.heap.size + 2 ≤ b) wy HRF.out.2).mono ?_
                rintro e w2 ⟨vs, vp, rfl, ⟨D1, g1, D2, g2, D3, g3, D4, g4, rfl, hrd⟩, ⟨Bp, dp, rfl, hpk⟩, hb2⟩
                have K1 := Aside.mk (HRF.out.1.b1.belowAll hb2)
                have HRD := Aside.mk hrd; have HPK := Aside.mk hpk
                have HB2 := Aside.mk (below_all HRF.out.1.below HRF.out.1.below.size hb2)
                obtain ⟨k1c, k1f, k1s, k1h⟩ := K1.out.all
                clear hrd hpk hb2 b0c b0f b0s b0h b1c b1f b1s b1h hne0 hne1
                simp only [sesCells]
                go_wp2_with fail
                refine bodyPost_ret (res_ct rfl _ _ (w.heap.size + 1) 27 _ _ rfl (K1.out.put _) Try.underlying27 rfl (by kernel_rfl)) rfl ?_
                rw [HT.out]
                exact post30_refill (by omega) HRD.out HPK.out HB2.out _
              · have hsb : (x.st == 2) = false := by simpa using hst
                have HST := Aside.mk hst
                clear hst hq
                have HN := Aside.mk (none_snoc HX.out HNO.out (by unfold hitB; simp [HST.out]))
                go_wp2_with fail
                go_roundw
                case rel => exact ⟨k + 1, by omega, by go_num, HN, ⟨HJ.out.far ((Below.refl _ _).alloc (Nat.le_refl _) _)⟩⟩
                case measure => simp [intOf]; omega
            · have hqb : (x.m.q == 2) = false := by simpa using hq
              have HQ := Aside.mk hq
              clear hq
              have HN := Aside.mk (none_snoc HX.out HNO.out (by unfold hitB; simp [HQ.out]))
              go_wp2_with fail
              go_roundw
              case rel => exact ⟨k + 1, by omega, by go_num, HN, ⟨HJ.out.far ((Below.refl _ _).alloc (Nat.le_refl _) _)⟩⟩
              case measure => simp [intOf]; omega
          · have he' : (x.id != id) = true := by simpa using he
            have HE := Aside.mk he
            clear he
            have HN := Aside.mk (none_snoc HX.out HNO.out (by unfold hitB; simp [HE.out]))
            go_wp2_with fail
            go_roundw
            case rel => exact ⟨k + 1, by omega, by go_num, HN, ⟨HJ.out.far ((Below.refl _ _).alloc (Nat.le_refl _) _)⟩⟩
            case measure => simp [intOf]; omega
        · have hke : k = s.flight.length := by omega
          have hge : decide (k < s.flight.length) = false := by simp; omega
          subst hke
          go_wp2_with fail
          go_meet
          exact ⟨by have := HNO.out; rwa [List.take_length] at this, HJ⟩
    case rest =>
      obtain ⟨hno, HJ⟩ := hcut
      clear b0c b0f b0s b0h
      have HT := Aside.mk (answer_none HR.out (by decide) hno)
      obtain ⟨b0c, b0f, b0s, b0h⟩ := HJ.out.b0.all
      obtain ⟨b1c, b1f, b1s, b1h⟩ := HJ.out.b1.all
      have hsz : w.heap.size + 1 < wc.heap.size := HJ.out.b1.lt
      have hsz0 : w.heap.size < wc.heap.size := by omega
      have hne1 : ¬ w.heap.size + 1 = wc.heap.size := by omega
      have hne0 : ¬ w.heap.size = wc.heap.size := by omega
      clear hno
      go_wp2_with fail
      refine bodyPost_ret (res_ct rfl _ _ (w.heap.size + 1) 27 _ _ rfl (HJ.out.b1.put _) Try.underlying27 rfl (by kernel_rfl)) rfl ?_
      rw [HT.out, if_neg (by decide)]
      exact post30_none (RdSes.from H.out HJ.out.below) HJ.out.below _

set_option maxRecDepth 100000 in
set_option maxHeartbeats 8000000 in
theorem refAnswer_k5 (s : Ses) (A1 : Option Addr) (c1 : Nat) (A2 : Option Addr) (c2 : Nat) (A3 : Option Addr) (c3 : Nat) (A4 : Option Addr) (c4 : Nat) (id : Int) (ok : Nat → Prop) (w : World)
    (h : RdSes ok w s A1 c1 A2 c2 A3 c3 A4 c4) (hr1 : 1 ≤ id) (hr2 : id ≤ 65535) :
    Calls Try.prog 22 #[.agg (sesCells s A1 c1 A2 c2 A3 c3 A4 c4), .int .i64 5, .int .i64 id] w (Post30 (answerD s 5 id) ok w) := by
  have hl4 := h.ids.2.2.1; have hl3 := h.flight.2.2.1
  have H := Aside.mk h
  clear h
  have HR0 := Aside.mk (show RA s w A1 c1 A2 c2 A3 c3 A4 c4 ((w.alloc (.cells (sesCells s A1 c1 A2 c2 A3 c3 A4 c4) 27)).alloc (.cells zeroSes 27)) from ⟨(Blk.new w 27 _).alloc _, Blk.newAt _ _ (by simp) 27 _, ((Below.refl _ _).alloc (Nat.le_refl _) _).alloc (by simp) _⟩)
  simp only [sesCells]
  go_enter Try.func22, Try.ntmps22
  go_upto_region 1 with fail
  go_cut [19] (fun v wx => v = .bool (decide (id < 1) || decide (65535 < id)) ∧ Aside (RA s w A1 c1 A2 c2 A3 c3 A4 c4 wx))
  case first =>
    by_cases h0 : id < 1
    · go_wp2_with fail
      go_meet
      exact ⟨by simp [h0], HR0⟩
    · have h0' : 1 ≤ id := by omega
      go_wp2_with fail
      go_meet
      exact ⟨by simp; omega, HR0⟩
  case rest =>
    clear HR0
    obtain ⟨rfl, HR0⟩ := hcut
    obtain ⟨b0c, b0f, b0s, b0h⟩ := HR0.out.b0.all
    have hd : (decide (id < 1) || decide (65535 < id)) = false := by simp; omega
    have HR := Aside.mk (show ¬ (id < 1 ∨ 65535 < id) by omega)
    rw [hd]
    clear hd hr1 hr2
    go_upto_block 2 with (fail)
    go_cut [] (fun wx => (∀ y ∈ s.flight, hitB 5 id y = false) ∧ Aside (RA s w A1 c1 A2 c2 A3 c3 A4 c4 wx))
    case first =>
      go_wp2_with fail
      go_loopw [47] (fun i wr => ∃ k : Nat, k ≤ s.flight.length ∧ i = .int .i64 k ∧ Aside (∀ y ∈ s.flight.take k, hitB 5 id y = false) ∧ Aside (RA s w A1 c1 A2 c2 A3 c3 A4 c4 wr)) (fun i _ => s.flight.length - (intOf i).toNat)
      case atStart => exact ⟨0, Nat.zero_le _, rfl, ⟨fun y hy => by simp at hy⟩, HR0⟩
      case round =>
        obtain ⟨k, hk, rfl, HNO, HJ⟩ := hrel
        clear b0c b0f b0s b0h
        obtain ⟨b0c, b0f, b0s, b0h⟩ := HJ.out.b0.all
        by_cases hlt : k < s.flight.length
        · have hlt' : (k : Int) < (s.flight.length : Int) := by omega
          have hk0 : (0 : Int) ≤ (k : Int) := by omega
          have hx : s.flight[k]? = some s.flight[k] := List.getElem?_eq_getElem hlt
          obtain ⟨ad, A', c', hAd, hP, hw, e0, e1, e2, e3, e4, e5, e6, e7⟩ := flt_at (H.out.below HJ.out.below).flight.2.2.2 hlt hx
          obtain rfl := hAd
          generalize s.flight[k] = x at hx hP hw e0 e1 e2 e3 e4 e5 e6 e7
          have HX := Aside.mk hx; have HP := Aside.mk hP
          clear hx hP hw
          by_cases he : x.id = id
          · have he' : (x.id != id) = false := by simpa using he
            have hkc : True := trivial
            by_cases hq : x.m.q = 2
            · have hqb : (x.m.q == 2) = true := by simpa using hq
              have HQ := Aside.mk hq
              have HE := Aside.mk he
              clear hq he
              have HT := Aside.mk (answer_got HR.out (find_at HX.out HNO.out (by unfold hitB; simp [HE.out, HQ.out])))
              have HRa := Aside.mk (HJ.out.far ((Below.refl _ _).alloc (Nat.le_refl _) (.cells (fltCells x A' c').toArray 50)))
              have hlr : w.heap.size < wr.heap.size := HJ.out.b0.lt
              have hner : ¬ w.heap.size = wr.heap.size := by omega
              clear hkc
              go_wp2_with (at_builtin; go_must (refine wpList_append_Own (P := Try.prog) _ rfl kFlt (.const (.slice none 0 0)) (.tmp 97) 24 50 rfl zeroFlt 88 Try.underlying24 info50 rfl (by decide) (ok := fun b => (ok b ∧ b < w.heap.size) ∨ w.heap.size + 2 ≤ b) (okp := fun b => ok b ∧ b < w.heap.size) (lo := w.heap.size + 2) (v := .slice none 0 0) (xs := []) (ys := s.flight) rfl (Own.nil _ _ _ _ _) (A := some ad) (m := s.flight.length) (c := c3) rfl ?c1 ?c2 ?c3 ?c4 ?c5 ?_))
              case c1 => exact Kn.C_free ((H.out.flight.mono (fun b hb hlt => ⟨hb, hlt⟩)).below HRa.out.below).2.2.2
              case c2 => exact fun b hb _ => ⟨.inl hb, by simp [Value.ownBlock]⟩
              case c3 => exact fun b hb => .inr (by have := HJ.out.b1.lt; simp at hb; omega)
              case c4 => have := HJ.out.b1.lt; simp; omega
              case c5 => first | omega | (simp; omega)
              intro v1 w1 hO hg hat
              have hb1 := below_of_grown_none hg
              have HR1 := Aside.mk (HRa.out.far hb1)
              obtain ⟨A5, c5, hv1, hSx⟩ := hO.reads (bytes := 88) (by first | omega | (simp; omega))
              clear hSx
              subst hv1
              obtain ⟨g, cur, hA5, hg3, hbg, hnc, hcm, hcs⟩ := own_flts hO (show 0 < s.flight.length by omega)
              subst hA5
              have hOg := own_flts_got hO hbg k (show k < s.flight.length from hlt)
              obtain ⟨ux, hux⟩ : ∃ u, cur[k * 8 + 1]? = some u := ⟨_, Array.getElem?_eq_getElem (by have hnc' : s.flight.length ≤ c5 := hnc; omega)⟩
              obtain ⟨e3c, e3f, e3s, e3h⟩ := hbg.all
              have HRz := Aside.mk (HR1.out.side (show w.heap.size + 2 ≤ g from hg3) (cur.setIfInBounds (k * 8 + 1) (.int .i64 2)))
              have hfl : (s.flight.modify k gotF).length = s.flight.length := List.length_modify _ _ _
              obtain ⟨A6, c6, hv6, hS6⟩ := hOg.reads (bytes := 88) (by rw [hfl]; omega)
              injection hv6 with h61 h6n h62
              clear h6n
              subst h61 h62
              have HS6 := Aside.mk hS6
              have hgn : ¬ g = w.heap.size := by omega
              have hgn1 : ¬ g = w.heap.size + 1 := by omega
              clear hO hg hat hb1 hbg hOg hS6 hcs hfl b0c b0f b0s b0h
              go_upto_region 24 with fail
              obtain ⟨wz, hwz⟩ : ∃ wz, wz = w1.setRow g (cur.setIfInBounds (k * 8 + 1) (.int .i64 2)) := ⟨_, rfl⟩
              rw [← hwz] at HRz HS6 ⊢
              clear hwz e3c e3f e3s e3h
              obtain ⟨b0c, b0f, b0s, b0h⟩ := HRz.out.b0.all
              go_upto_region 25 with fail
              obtain ⟨wy, hwy⟩ : ∃ wy, wy = wz.setRow w.heap.size #[.string s.cl, .slice A1 s.subs.length c1, .slice A2 s.queue.length c2, .slice (some ⟨g, 0, none⟩) s.flight.length c5, .slice A4 s.ids.length c4, .int .i64 s.nid, .int .i64 s.hd, .int .i64 s.snt] := ⟨_, rfl⟩
              rw [← hwy]
              have HRF := Aside.mk (show RA (gotS s k) w A1 c1 A2 c2 (some ⟨g, 0, none⟩) c5 A4 c4 wy ∧ RdSes (fun b => (ok b ∧ b < w.heap.size) ∨ w.heap.size + 2 ≤ b) wy (gotS s k) A1 c1 A2 c2 (some ⟨g, 0, none⟩) c5 A4 c4 by rw [hwy]; exact RA.got HRz.out H.out HS6.out)
              clear hwy b0c b0f b0s b0h
              obtain ⟨b0c, b0f, b0s, b0h⟩ := HRF.out.1.b0.all
              obtain ⟨b1c, b1f, b1s, b1h⟩ := HRF.out.1.b1.all
              have hsz : w.heap.size + 1 < wy.heap.size := HRF.out.1.b1.lt
              have hsz0 : w.heap.size < wy.heap.size := by omega
              have hne1 : ¬ w.heap.size + 1 = wy.heap.size := by omega
              have hne0 : ¬ w.heap.size = wy.heap.size := by omega
              have hfl : (s.flight.modify k gotF).length = s.flight.length := List.length_modify _ _ _
              unfold sesCells at b0c
              simp only [show (gotS s k).flight.length = s.flight.length from hfl] at b0c
              clear hfl
              go_wp2_with fail
              refine bodyPost_ret (res_ct rfl _ _ (w.heap.size + 1) 27 _ _ rfl ((HRF.out.1.b1.put _).alloc _) Try.underlying27 rfl (by kernel_rfl)) rfl ?_
              rw [HT.out]
              have HP := post30_bare HRF.out.2 HRF.out.1.below (sesCells (gotS s k) A1 c1 A2 c2 (some ⟨g, 0, none⟩) c5 A4 c4) 6 id
              unfold sesCells at HP
              simp only [show (gotS s k).flight.length = s.flight.length from List.length_modify _ _ _] at HP
              exact HP
            · have hqb : (x.m.q == 2) = false := by simpa using hq
              have HQ := Aside.mk hq
              clear hq
              have HN := Aside.mk (none_snoc HX.out HNO.out (by unfold hitB; simp [HQ.out]))
              go_wp2_with fail
              go_roundw
              case rel => exact ⟨k + 1, by omega, by go_num, HN, ⟨HJ.out.far ((Below.refl _ _).alloc (Nat.le_refl _) _)⟩⟩
              case measure => simp [intOf]; omega
          · have he' : (x.id != id) = true := by simpa using he
            have HE := Aside.mk he
            clear he
            have HN := Aside.mk (none_snoc HX.out HNO.out (by unfold hitB; simp [HE.out]))
            go_wp2_with fail
            go_roundw
            case rel => exact ⟨k + 1, by omega, by go_num, HN, ⟨HJ.out.far ((Below.refl _ _).alloc (Nat.le_refl _) _)⟩⟩
            case measure => simp [intOf]; omega
        · have hke : k = s.flight.length := by omega
          have hge : decide (k < s.flight.length) = false := by simp; omega
          subst hke
          go_wp2_with fail
          go_meet
          exact ⟨by have := HNO.out; rwa [List.take_length] at this, HJ⟩
    case rest =>
      obtain ⟨hno, HJ⟩ := hcut
      clear b0c b0f b0s b0h
      have HT := Aside.mk (answer_none HR.out (by decide) hno)
      obtain ⟨b0c, b0f, b0s, b0h⟩ := HJ.out.b0.all
      obtain ⟨b1c, b1f, b1s, b1h⟩ := HJ.out.b1.all
      have hsz : w.heap.size + 1 < wc.heap.size := HJ.out.b1.lt
      have hsz0 : w.heap.size < wc.heap.size := by omega
      have hne1 : ¬ w.heap.size + 1 = wc.heap.size := by omega
      have hne0 : ¬ w.heap.size = wc.heap.size := by omega
      clear hno
      go_wp2_with fail
      refine bodyPost_ret (res_ct rfl _ _ (w.heap.size + 1) 27 _ _ rfl ((HJ.out.b1.put _).alloc _) Try.underlying27 rfl (by kernel_rfl)) rfl ?_
      rw [HT.out]
      exact post30_bare (RdSes.from H.out HJ.out.below) HJ.out.below _ 6 id

theorem refAnswer_any (s : Ses) (A1 : Option Addr) (c1 : Nat) (A2 : Option Addr) (c2 : Nat) (A3 : Option Addr) (c3 : Nat) (A4 : Option Addr) (c4 : Nat) (kind id : Int) (ok : Nat → Prop) (w : World)
    (h : RdSes ok w s A1 c1 A2 c2 A3 c3 A4 c4) :
    Calls Try.prog 22 #[.agg (sesCells s A1 c1 A2 c2 A3 c3 A4 c4), .int .i64 kind, .int .i64 id] w (Post30 (answerD s kind id) ok w) := by
  by_cases hr : id < 1 ∨ 65535 < id
  · exact refAnswer_low s A1 c1 A2 c2 A3 c3 A4 c4 kind id ok w h hr
  · by_cases h6 : kind = 6
    · exact refAnswer_rel s A1 c1 A2 c2 A3 c3 A4 c4 kind id ok w h (by omega) (by omega) h6
    · by_cases h4 : kind = 4
      · subst h4; exact refAnswer_k4 s A1 c1 A2 c2 A3 c3 A4 c4 id ok w h (by omega) (by omega)
      · by_cases h5 : kind = 5
        · subst h5; exact refAnswer_k5 s A1 c1 A2 c2 A3 c3 A4 c4 id ok w h (by omega) (by omega)
        · by_cases h7 : kind = 7
          · subst h7; exact refAnswer_k7 s A1 c1 A2 c2 A3 c3 A4 c4 id ok w h (by omega) (by omega)
          · exact refAnswer_k0 s A1 c1 A2 c2 A3 c3 A4 c4 kind id ok w h (by omega) (by omega) ⟨h4, h5, h7, h6⟩
end Go.Proofs.Ytmeeldcgmfplnaa
