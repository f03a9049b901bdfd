/-
  Steps and answers of an argument, read as data.
-/
import Derived.Test.YtmeeldcgmfplnaaReads2
set_option linter.unusedVariables false
set_option linter.unusedSimpArgs false
namespace Go.Proofs.Ytmeeldcgmfplnaa
open Go.ChangeShapes Go.WideShapes Go.ChangeAt Go.RowKit

theorem bytesOf4 : Try.prog.bytesOf 4 = 1 := by kernel_rfl
/-- A bool, one cell. -/
def kBool : Kn Bool := Kn.scalar Value.bool (fun _ => rfl)
theorem Reads.bool : Reads 4 kBool := fun enc w base spare held fuel cs x h _ => by
  obtain ⟨n, rfl, _⟩ := DataW.trod_bool Try.underlying4 h
  exact ⟨n, rfl⟩
theorem Reads.bools : Reads 45 (Kn.slice 1 kBool) := Reads.slice Try.underlying45 cellsOf4 bytesOf4 Reads.bool
theorem Reads.stp : Reads 55 kStp := fun enc w base spare held fuel cs x hx hw => by
  obtain ⟨hl, hf⟩ := struct_fields Try.underlying55 hx hw
  rw [cellsOf55] at hl
  match cs, hl with
  | [a0, a1, a2, a3, a4, a5, a6, a7, a8], _ =>
    obtain ⟨n0, y0, h0, w0⟩ := hf 0 { name := "Do", type := 3, offset := 0, embedded := false, tag := "", pkgPath := "", byteOffset := 0 } rfl
    simp only [cellsOf3, List.drop_zero, List.drop_succ_cons, List.take_succ_cons, List.take_zero] at h0
    obtain ⟨n1, y1, h1, w1⟩ := hf 1 { name := "M", type := 30, offset := 1, embedded := false, tag := "", pkgPath := "", byteOffset := 8 } rfl
    simp only [cellsOf30, List.drop_zero, List.drop_succ_cons, List.take_succ_cons, List.take_zero] at h1
    obtain ⟨n2, y2, h2, w2⟩ := hf 2 { name := "Kind", type := 3, offset := 6, embedded := false, tag := "", pkgPath := "", byteOffset := 72 } rfl
    simp only [cellsOf3, List.drop_zero, List.drop_succ_cons, List.take_succ_cons, List.take_zero] at h2
    obtain ⟨n3, y3, h3, w3⟩ := hf 3 { name := "Id", type := 3, offset := 7, embedded := false, tag := "", pkgPath := "", byteOffset := 80 } rfl
    simp only [cellsOf3, List.drop_zero, List.drop_succ_cons, List.take_succ_cons, List.take_zero] at h3
    obtain ⟨n4, y4, h4, w4⟩ := hf 4 { name := "Online", type := 4, offset := 8, embedded := false, tag := "", pkgPath := "", byteOffset := 88 } rfl
    simp only [cellsOf4, List.drop_zero, List.drop_succ_cons, List.take_succ_cons, List.take_zero] at h4
    obtain ⟨d, e0, _, _⟩ := DataW.trod_int Try.underlying3 h0
    obtain ⟨m, A, c, e1, hS⟩ := Reads.msg enc w base spare held n1 _ _ h1 w1
    obtain ⟨k, e2, _, _⟩ := DataW.trod_int Try.underlying3 h2
    obtain ⟨id, e3, _, _⟩ := DataW.trod_int Try.underlying3 h3
    obtain ⟨on, e4, _⟩ := DataW.trod_bool Try.underlying4 h4
    injection e0 with e0; injection e2 with e2; injection e3 with e3; injection e4 with e4
    injection e1 with g0 e1; injection e1 with g1 e1; injection e1 with g2 e1; injection e1 with g3 e1; injection e1 with g4 e1
    subst e0 e2 e3 e4 g0 g1 g2 g3 g4
    exact ⟨⟨d, m, k, id, on⟩, A, c, rfl, hS⟩
theorem Reads.stps : Reads 53 (Kn.slice 96 kStp) := Reads.slice Try.underlying53 cellsOf55 bytesOf55 Reads.stp
end Go.Proofs.Ytmeeldcgmfplnaa
