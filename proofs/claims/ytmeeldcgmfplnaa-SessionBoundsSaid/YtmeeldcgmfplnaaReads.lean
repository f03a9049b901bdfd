/-
  What an argument's reading says of its cells, type by type: sessions, messages, flights.
-/
import Derived.Test.YtmeeldcgmfplnaaRows
import Derived.Test.YtmeeldcgmfplnaaTypes
import Derived.ProofKit
import Derived.SizedLaws
import Derived.Test.YtmeeldcgmfplnaaProg
set_option linter.unusedVariables false
set_option linter.unusedSimpArgs false
namespace Go.Proofs.Ytmeeldcgmfplnaa
open Go.ChangeShapes Go.WideShapes Go.ChangeAt Go.RowKit

/-- What reads as type t has cells that read as kind d. -/
def Reads {α : Type} (t : TypeId) (d : Kn α) : Prop :=
  ∀ {H : Type} (enc : TypeId × Value → H) (w : World) (base : Nat) (spare : Nat → Bool) (held : Bool) (fuel : Nat) (cs : List Value) (x : DataW H × List MemPlace),
    DataW.trod enc Try.prog w base spare held fuel t cs = some x → (∀ n ∈ x.1.weights Try.prog t, n ≤ reachBytes) → ∃ a, d.K (fun _ => True) w a cs

theorem weightsAll_mem {H : Type} {P : Program} {e : TypeId} : ∀ {l : List (DataW H)} {d : DataW H}, d ∈ l → ∀ n ∈ d.weights P e, n ∈ DataW.weightsAll P e l
  | d' :: r, d, hd, n, hn => by
    simp only [DataW.weightsAll, List.mem_append]
    rcases List.mem_cons.1 hd with rfl | h
    · exact Or.inl hn
    · exact Or.inr (weightsAll_mem h n hn)

theorem Reads.int {t : TypeId} {k : IntKind} (ht : Try.prog.underlying t = some (.int k)) : Reads t (Kn.int k) := fun enc w base spare held fuel cs x h _ => by
  obtain ⟨n, rfl, _, _⟩ := DataW.trod_int ht h
  exact ⟨n, rfl⟩

theorem rows_of {α : Type} {d : Kn α} {w : World} {base : Nat} {a : Addr} {len : Nat}
    (h : ∀ i, i < len → ∃ cs x, w.cells? base (a.add (i * d.sz)) d.sz = some cs ∧ d.K (fun _ => True) w x cs) :
    ∃ xs cs, xs.length = len ∧ Reps (d.K (fun _ => True) w) d.sz xs cs ∧ ∀ j u, cs[j]? = some u → w.cell? (a.add j) = some u := by
  induction len with
  | zero => exact ⟨[], [], rfl, Reps.nil _ _, fun j u hu => by simp at hu⟩
  | succ n ih =>
    obtain ⟨xs, cs, hl, hr, hc⟩ := ih (fun i hi => h i (by omega))
    obtain ⟨c, x, h1, h2⟩ := h n (by omega)
    obtain ⟨_, hlen, hcell⟩ := World.cells?_some h1
    refine ⟨xs ++ [x], cs ++ c, by simp [hl], hr.snoc h2 hlen, fun j u hu => ?_⟩
    rcases Nat.lt_or_ge j cs.length with hj | hj
    · rw [List.getElem?_append_left hj] at hu
      exact hc j u hu
    · rw [List.getElem?_append_right hj] at hu
      have hlt : j - cs.length < c.length := (List.getElem?_eq_some_iff.1 hu).1
      have h3 := hcell (j - cs.length) (by omega)
      rw [hu, add_add'] at h3
      rw [← h3]
      congr 2
      rw [hr.1, hl] at hj ⊢
      omega

theorem Reads.slice {α : Type} {d : Kn α} {t e : TypeId} {bytes : Nat} (ht : Try.prog.underlying t = some (.slice e)) (hsz : Try.prog.cellsOf e = d.sz) (hb : Try.prog.bytesOf e = bytes) (h : Reads e d) : Reads t (Kn.slice bytes d) := fun enc w base spare held fuel cs x hx hw => by
  rcases DataW.trod_slice ht hx with ⟨rfl, rfl⟩ | ⟨a, len, cap, elems, rest, n, _, rfl, rfl, hba, hl, hm, hlen, hel, _, _⟩
  · exact ⟨[], none, 0, rfl, Nat.le_refl _, by decide, by simp, Kn.C_nil _ _ _ _⟩
  · have hwt : ∀ n ∈ DataW.weights Try.prog t (DataW.slice (elems.map (·.1)) (rest.map (·.1))), n ≤ reachBytes := hw
    simp only [DataW.weights, ht, List.mem_cons, List.mem_append] at hwt
    have hbig := hwt _ (.inl rfl)
    rw [List.length_map, List.length_map, hb] at hbig
    rw [hsz] at hel
    obtain ⟨xs, cs, hxl, hr, hc⟩ := rows_of (d := d) (w := w) (base := base) (a := a) (len := len) (fun i hi => by
      have h1 := hel i hi
      have hi' : i < elems.length := by omega
      rw [List.getElem?_eq_getElem hi'] at h1
      obtain ⟨c, h2, h3⟩ := Option.bind_eq_some_iff.1 h1
      obtain ⟨y, hy⟩ := h enc w base spare held n c _ h3 (fun n hn => hwt n (.inr (.inl (weightsAll_mem (List.mem_map.2 ⟨_, List.getElem_mem hi', rfl⟩) n hn))))
      exact ⟨c, y, h2, hy⟩)
    refine ⟨xs, some a, cap, by rw [hxl], by omega, hm, ?_, rfl, fun _ => ⟨a, cs, rfl, trivial, hr, hc⟩⟩
    have h3 : xs.length * bytes ≤ (elems.length + rest.length) * bytes := Nat.mul_le_mul_right _ (by omega)
    have h4 : reachBytes = 140737488351232 := rfl
    omega
/-- A struct, field by field. -/
theorem struct_fields {H : Type} {enc : TypeId × Value → H} {w : World} {base : Nat} {spare : Nat → Bool} {held : Bool} {fuel : Nat} {t : TypeId} {cs : List Value} {x : DataW H × List MemPlace} {fs : Array Field}
    (ht : Try.prog.underlying t = some (.struct fs)) (h : DataW.trod enc Try.prog w base spare held fuel t cs = some x) (hw : ∀ n ∈ x.1.weights Try.prog t, n ≤ reachBytes) :
    cs.length = Try.prog.cellsOf t ∧ ∀ (i : Nat) (f : Field), fs[i]? = some f → ∃ n y, DataW.trod enc Try.prog w base spare held n f.type ((cs.drop f.offset).take (Try.prog.cellsOf f.type)) = some y ∧ ∀ m ∈ y.1.weights Try.prog f.type, m ≤ reachBytes := by
  obtain ⟨xs, n, _, rfl, hl, hlen, hf⟩ := DataW.trod_struct ht h
  refine ⟨hl, fun i f hi => ?_⟩
  have h1 := hf i f hi
  have hlt : i < xs.length := by rw [hlen]; exact (Array.getElem?_eq_some_iff.1 hi).1
  rw [List.getElem?_eq_getElem hlt] at h1
  refine ⟨n, _, h1, fun m hm => hw m ?_⟩
  simp only [DataW.weights, ht]
  refine DataW.weights_mem_each (j := i) (t := f.type) (d := (xs[i]).1) ?_ ?_ m hm
  · rw [List.getElem?_map, Array.getElem?_toList, hi]; rfl
  · rw [List.getElem?_map, List.getElem?_eq_getElem hlt]; rfl

theorem cellsOf9 : Try.prog.cellsOf 9 = 1 := by kernel_rfl
theorem cellsOf28 : Try.prog.cellsOf 28 = 1 := by kernel_rfl
theorem cellsOf3 : Try.prog.cellsOf 3 = 1 := by kernel_rfl
theorem cellsOf4 : Try.prog.cellsOf 4 = 1 := by kernel_rfl
theorem cellsOf2 : Try.prog.cellsOf 2 = 1 := by kernel_rfl
theorem cellsOf5 : Try.prog.cellsOf 5 = 1 := by kernel_rfl
theorem cellsOf22 : Try.prog.cellsOf 22 = 1 := by kernel_rfl
theorem cellsOf23 : Try.prog.cellsOf 23 = 1 := by kernel_rfl
theorem cellsOf24 : Try.prog.cellsOf 24 = 1 := by kernel_rfl
theorem cellsOf25 : Try.prog.cellsOf 25 = 1 := by kernel_rfl
theorem cellsOf30 : Try.prog.cellsOf 30 = 5 := by kernel_rfl
theorem cellsOf81 : Try.prog.cellsOf 81 = 2 := by kernel_rfl
theorem cellsOf50 : Try.prog.cellsOf 50 = 8 := by kernel_rfl
theorem cellsOf27 : Try.prog.cellsOf 27 = 8 := by kernel_rfl
theorem cellsOf55 : Try.prog.cellsOf 55 = 9 := by kernel_rfl
theorem cellsOf53 : Try.prog.cellsOf 53 = 1 := by kernel_rfl
theorem bytesOf5 : Try.prog.bytesOf 5 = 1 := by kernel_rfl
theorem bytesOf3 : Try.prog.bytesOf 3 = 8 := by kernel_rfl
theorem bytesOf30 : Try.prog.bytesOf 30 = 64 := by kernel_rfl
theorem bytesOf81 : Try.prog.bytesOf 81 = 24 := by kernel_rfl
theorem bytesOf50 : Try.prog.bytesOf 50 = 88 := by kernel_rfl
theorem bytesOf55 : Try.prog.bytesOf 55 = 96 := by kernel_rfl

theorem Reads.u8s : Reads 28 (Kn.slice 1 kU8) := Reads.slice Try.underlying28 cellsOf5 bytesOf5 (Reads.int Try.underlying5)
theorem Reads.i64s : Reads 25 (Kn.slice 8 kI64) := Reads.slice Try.underlying25 cellsOf3 bytesOf3 (Reads.int Try.underlying3)
theorem Reads.want : Reads 81 kWant := fun enc w base spare held fuel cs x hx hw => by
  obtain ⟨hl, hf⟩ := struct_fields Try.underlying81 hx hw
  rw [cellsOf81] at hl
  match cs, hl with
  | [a0, a1], _ =>
    obtain ⟨n0, y0, h0, w0⟩ := hf 0 { name := "Filter", type := 9, offset := 0, embedded := false, tag := "", pkgPath := "", byteOffset := 0 } rfl
    simp only [cellsOf9, List.drop_zero, List.drop_succ_cons, List.take_succ_cons, List.take_zero] at h0
    obtain ⟨n1, y1, h1, w1⟩ := hf 1 { name := "Qos", type := 3, offset := 1, embedded := false, tag := "", pkgPath := "", byteOffset := 16 } rfl
    simp only [cellsOf3, List.drop_zero, List.drop_succ_cons, List.take_succ_cons, List.take_zero] at h1
    obtain ⟨f, e0, _, _⟩ := DataW.trod_string Try.underlying9 h0
    obtain ⟨q, e1, _, _⟩ := DataW.trod_int Try.underlying3 h1
    injection e0 with e0; injection e1 with e1
    subst e0 e1
    exact ⟨⟨f, q⟩, rfl⟩
theorem Reads.msg : Reads 30 kMsg := fun enc w base spare held fuel cs x hx hw => by
  obtain ⟨hl, hf⟩ := struct_fields Try.underlying30 hx hw
  rw [cellsOf30] at hl
  match cs, hl with
  | [a0, a1, a2, a3, a4], _ =>
    obtain ⟨n0, y0, h0, w0⟩ := hf 0 { name := "Topic", type := 9, offset := 0, embedded := false, tag := "", pkgPath := "", byteOffset := 0 } rfl
    simp only [cellsOf9, List.drop_zero, List.drop_succ_cons, List.take_succ_cons, List.take_zero] at h0
    obtain ⟨n1, y1, h1, w1⟩ := hf 1 { name := "Payload", type := 28, offset := 1, embedded := false, tag := "", pkgPath := "", byteOffset := 16 } rfl
    simp only [cellsOf28, List.drop_zero, List.drop_succ_cons, List.take_succ_cons, List.take_zero] at h1
    obtain ⟨n2, y2, h2, w2⟩ := hf 2 { name := "Qos", type := 3, offset := 2, embedded := false, tag := "", pkgPath := "", byteOffset := 40 } rfl
    simp only [cellsOf3, List.drop_zero, List.drop_succ_cons, List.take_succ_cons, List.take_zero] at h2
    obtain ⟨n3, y3, h3, w3⟩ := hf 3 { name := "Retain", type := 4, offset := 3, embedded := false, tag := "", pkgPath := "", byteOffset := 48 } rfl
    simp only [cellsOf4, List.drop_zero, List.drop_succ_cons, List.take_succ_cons, List.take_zero] at h3
    obtain ⟨n4, y4, h4, w4⟩ := hf 4 { name := "Until", type := 2, offset := 4, embedded := false, tag := "", pkgPath := "", byteOffset := 56 } rfl
    simp only [cellsOf2, List.drop_zero, List.drop_succ_cons, List.take_succ_cons, List.take_zero] at h4
    obtain ⟨f, e0, _, _⟩ := DataW.trod_string Try.underlying9 h0
    obtain ⟨p, A, c, e1, hS⟩ := Reads.u8s enc w base spare held n1 _ _ h1 w1
    obtain ⟨q, e2, _, _⟩ := DataW.trod_int Try.underlying3 h2
    obtain ⟨r, e3, _⟩ := DataW.trod_bool Try.underlying4 h3
    obtain ⟨u, e4, _, _⟩ := DataW.trod_int Try.underlying2 h4
    injection e0 with e0; injection e1 with e1; injection e2 with e2; injection e3 with e3; injection e4 with e4
    subst e0 e1 e2 e3 e4
    exact ⟨⟨f, p, q, r, u⟩, A, c, rfl, hS⟩
theorem Reads.flt : Reads 50 kFlt := fun enc w base spare held fuel cs x hx hw => by
  obtain ⟨hl, hf⟩ := struct_fields Try.underlying50 hx hw
  rw [cellsOf50] at hl
  match cs, hl with
  | [a0, a1, a2, a3, a4, a5, a6, a7], _ =>
    obtain ⟨n0, y0, h0, w0⟩ := hf 0 { name := "Id", type := 3, offset := 0, embedded := false, tag := "", pkgPath := "", byteOffset := 0 } rfl
    simp only [cellsOf3, List.drop_zero, List.drop_succ_cons, List.take_succ_cons, List.take_zero] at h0
    obtain ⟨n1, y1, h1, w1⟩ := hf 1 { name := "Step", type := 3, offset := 1, embedded := false, tag := "", pkgPath := "", byteOffset := 8 } rfl
    simp only [cellsOf3, List.drop_zero, List.drop_succ_cons, List.take_succ_cons, List.take_zero] at h1
    obtain ⟨n2, y2, h2, w2⟩ := hf 2 { name := "Order", type := 2, offset := 2, embedded := false, tag := "", pkgPath := "", byteOffset := 16 } rfl
    simp only [cellsOf2, List.drop_zero, List.drop_succ_cons, List.take_succ_cons, List.take_zero] at h2
    obtain ⟨n3, y3, h3, w3⟩ := hf 3 { name := "Msg", type := 30, offset := 3, embedded := false, tag := "", pkgPath := "", byteOffset := 24 } rfl
    simp only [cellsOf30, List.drop_zero, List.drop_succ_cons, List.take_succ_cons, List.take_zero] at h3
    obtain ⟨id, e0, _, hid⟩ := DataW.trod_int Try.underlying3 h0
    obtain ⟨st, e1, _, _⟩ := DataW.trod_int Try.underlying3 h1
    obtain ⟨od, e2, _, _⟩ := DataW.trod_int Try.underlying2 h2
    obtain ⟨m, A, c, e3, hS⟩ := Reads.msg enc w base spare held n3 _ _ h3 w3
    injection e0 with e0; injection e1 with e1; injection e2 with e2
    injection e3 with g0 e3; injection e3 with g1 e3; injection e3 with g2 e3; injection e3 with g3 e3; injection e3 with g4 e3
    subst e0 e1 e2 g0 g1 g2 g3 g4
    exact ⟨⟨id, st, od, m⟩, A, c, rfl, hS, hid⟩
theorem Reads.wants : Reads 22 (Kn.slice 24 kWant) := Reads.slice Try.underlying22 cellsOf81 bytesOf81 Reads.want
theorem Reads.msgs : Reads 23 (Kn.slice 64 kMsg) := Reads.slice Try.underlying23 cellsOf30 bytesOf30 Reads.msg
theorem Reads.flts : Reads 24 (Kn.slice 88 kFlt) := Reads.slice Try.underlying24 cellsOf50 bytesOf50 Reads.flt

/-- A session's argument. -/
theorem ses_of {H : Type} {enc : TypeId × Value → H} {w : World} {base : Nat} {spare : Nat → Bool} {held : Bool} {r : Reach} {b0 : Nat} {v : Value} {d : DataW H} {ps : List MemPlace}
    (hv : Value.okWide Try.prog w r b0 27 v) (h : DataW.Trod enc Try.prog w base spare held 27 v d ps) (hw : ∀ n ∈ d.weights Try.prog 27, n ≤ reachBytes) :
    ∃ s A1 c1 A2 c2 A3 c3 A4 c4, v = .agg (sesCells s A1 c1 A2 c2 A3 c3 A4 c4) ∧ RdSes (fun _ => True) w s A1 c1 A2 c2 A3 c3 A4 c4 := by
  obtain ⟨cs, rfl, _⟩ := okWide_struct Try.underlying27 hv
  obtain ⟨fuel, hx⟩ := h
  obtain ⟨hl, hf⟩ := struct_fields Try.underlying27 hx hw
  rw [cellsOf27] at hl
  obtain ⟨cs⟩ := cs
  have hcs : (Value.agg ⟨cs⟩).cells.toList = cs := rfl
  rw [hcs] at hl hf
  match cs, hl with
  | [a0, a1, a2, a3, a4, a5, a6, a7], _ =>
    obtain ⟨n0, y0, h0, w0⟩ := hf 0 { name := "Client", type := 9, offset := 0, embedded := false, tag := "", pkgPath := "", byteOffset := 0 } rfl
    simp only [cellsOf9, List.drop_zero, List.drop_succ_cons, List.take_succ_cons, List.take_zero] at h0
    obtain ⟨n1, y1, h1, w1⟩ := hf 1 { name := "Subs", type := 22, offset := 1, embedded := false, tag := "", pkgPath := "", byteOffset := 16 } rfl
    simp only [cellsOf22, List.drop_zero, List.drop_succ_cons, List.take_succ_cons, List.take_zero] at h1
    obtain ⟨n2, y2, h2, w2⟩ := hf 2 { name := "Queue", type := 23, offset := 2, embedded := false, tag := "", pkgPath := "", byteOffset := 40 } rfl
    simp only [cellsOf23, List.drop_zero, List.drop_succ_cons, List.take_succ_cons, List.take_zero] at h2
    obtain ⟨n3, y3, h3, w3⟩ := hf 3 { name := "Flight", type := 24, offset := 3, embedded := false, tag := "", pkgPath := "", byteOffset := 64 } rfl
    simp only [cellsOf24, List.drop_zero, List.drop_succ_cons, List.take_succ_cons, List.take_zero] at h3
    obtain ⟨n4, y4, h4, w4⟩ := hf 4 { name := "Ids", type := 25, offset := 4, embedded := false, tag := "", pkgPath := "", byteOffset := 88 } rfl
    simp only [cellsOf25, List.drop_zero, List.drop_succ_cons, List.take_succ_cons, List.take_zero] at h4
    obtain ⟨n5, y5, h5, w5⟩ := hf 5 { name := "NextId", type := 3, offset := 5, embedded := false, tag := "", pkgPath := "", byteOffset := 112 } rfl
    simp only [cellsOf3, List.drop_zero, List.drop_succ_cons, List.take_succ_cons, List.take_zero] at h5
    obtain ⟨n6, y6, h6, w6⟩ := hf 6 { name := "Head", type := 2, offset := 6, embedded := false, tag := "", pkgPath := "", byteOffset := 120 } rfl
    simp only [cellsOf2, List.drop_zero, List.drop_succ_cons, List.take_succ_cons, List.take_zero] at h6
    obtain ⟨n7, y7, h7, w7⟩ := hf 7 { name := "Sent", type := 2, offset := 7, embedded := false, tag := "", pkgPath := "", byteOffset := 128 } rfl
    simp only [cellsOf2, List.drop_zero, List.drop_succ_cons, List.take_succ_cons, List.take_zero] at h7
    obtain ⟨cl, e0, _, _⟩ := DataW.trod_string Try.underlying9 h0
    obtain ⟨s1, A1, c1, e1, k1⟩ := Reads.wants enc w base spare held n1 _ _ h1 w1
    obtain ⟨s2, A2, c2, e2, k2⟩ := Reads.msgs enc w base spare held n2 _ _ h2 w2
    obtain ⟨s3, A3, c3, e3, k3⟩ := Reads.flts enc w base spare held n3 _ _ h3 w3
    obtain ⟨s4, A4, c4, e4, k4⟩ := Reads.i64s enc w base spare held n4 _ _ h4 w4
    obtain ⟨nid, e5, _, _⟩ := DataW.trod_int Try.underlying3 h5
    obtain ⟨hd, e6, _, _⟩ := DataW.trod_int Try.underlying2 h6
    obtain ⟨sn, e7, _, _⟩ := DataW.trod_int Try.underlying2 h7
    injection e0 with e0; injection e1 with e1; injection e2 with e2; injection e3 with e3; injection e4 with e4; injection e5 with e5; injection e6 with e6; injection e7 with e7
    subst e0 e1 e2 e3 e4 e5 e6 e7
    exact ⟨⟨cl, s1, s2, s3, s4, nid, hd, sn⟩, A1, c1, A2, c2, A3, c3, A4, c4, rfl, k1, k2, k3, k4⟩
/-- A message's argument. -/
theorem msg_of {H : Type} {enc : TypeId × Value → H} {w : World} {base : Nat} {spare : Nat → Bool} {held : Bool} {r : Reach} {b0 : Nat} {v : Value} {d : DataW H} {ps : List MemPlace}
    (hv : Value.okWide Try.prog w r b0 30 v) (h : DataW.Trod enc Try.prog w base spare held 30 v d ps) (hw : ∀ n ∈ d.weights Try.prog 30, n ≤ reachBytes) :
    ∃ (m : Msg) (A : Option Addr) (c : Nat), v = .agg #[.string m.t, .slice A m.p.length c, .int .i64 m.q, .bool m.r, .int .i64 m.u] ∧ Sl 1 kU8 (fun _ => True) w A c m.p := by
  obtain ⟨cs, rfl, _⟩ := okWide_struct Try.underlying30 hv
  obtain ⟨fuel, hx⟩ := h
  obtain ⟨cs⟩ := cs
  obtain ⟨m, A, c, e, hS⟩ := Reads.msg enc w base spare held fuel _ _ hx hw
  have hcs : (Value.agg ⟨cs⟩).cells.toList = cs := rfl
  rw [hcs] at e
  subst e
  exact ⟨m, A, c, rfl, hS⟩
end Go.Proofs.Ytmeeldcgmfplnaa
