/- PART EvS2 of a proof by an evaluator of the model that is proved sound. -/
import Derived.Test.YtkaeneplpelgeaaGreatDoorEvS
set_option linter.unusedVariables false
set_option linter.unusedSimpArgs false
namespace Go.Ev
open Go Go.RowKit
section ops
variable {P : Program} {ω : Nat → Value} {B : Nat} {W0 : World} {μ : Mp} {w : World} {s s' : St} {call : FuncId → List Value → E Value} {ρ ρ' : Operand → Value}
/-- The end of an append that makes a new row. -/
theorem append_new {ts : Array TypeId} {ty st e : TypeId} {i : TypeInfo} {s' x' zv : Value} {base : Option Addr} {n k m : Nat} {us old : List Value} (hts : ts[0]? = some st) (hu : P.underlying st = some (.slice e)) (hi : P.info? e = some i) (hz : i.zero = some zv)
    (hni : notInt P ts = true) (hs : s' = .slice base n k) (hlen : (Builtin.lenOf x').run P w = .ok m w) (hus : ∀ d, (Builtin.firstCells i.size m x').run P { w with drawn := d } = .ok us.toArray { w with drawn := d })
    (hold : ∀ d, (Builtin.firstCells i.size n s').run P { w with drawn := d } = .ok old.toArray { w with drawn := d })
    (hk : k < n + m) (hg : n + m < 1000000) (hb0 : i.bytes ≠ 0) (hb1 : i.bytes ≤ 1000) :
    ∃ cap, n + m ≤ cap ∧ (Builtin.append_ ts ty #[s', x']).run P w = .ok (.slice (some ⟨w.heap.size, 0, none⟩) (n + m) cap)
      (World.alloc { w with drawn := w.drawn + 1 } (.cells (old.toArray ++ us.toArray ++ Builtin.zeroCells zv.cells (cap - (n + m))) e)) := by
  subst hs
  have hsz : size? P e = some i.size := by unfold size?; rw [hi]; rfl
  have hz0 : zero? P e = some zv := by unfold zero?; rw [hi]; exact hz
  have hc : ∀ w' : World, ∃ cap, n + m ≤ cap ∧ (choose (.appendCap (n + m) k e)).run P w' = .ok cap { w' with drawn := w'.drawn + 1 } := by
    intro w'
    refine ⟨_, ?_, by rw [run_choose, if_neg (by simp [Question.forced])]⟩
    simp [Question.cut]
  obtain ⟨cap, hcap, hch⟩ := hc w
  refine ⟨cap, hcap, ?_⟩
  have g1 : ¬ ((((n + m : Nat) : Int) > IntKind.i64.max) ∧ (false = true ∨ i.bytes = 0)) := by
    rintro ⟨_, h | h⟩
    · cases h
    · exact hb0 h
  have g2 : ¬ (Builtin.nextslicecap (n + m) k * i.bytes > 2 ^ 48) := by
    have h1 := slicecap_le hk
    have h2 : Builtin.nextslicecap (n + m) k * i.bytes ≤ (16 * (n + m + 768)) * 1000 := Nat.mul_le_mul h1 hb1
    have h3 : (16 * (n + m + 768)) * 1000 ≤ 2 ^ 48 := by omega
    omega
  unfold Builtin.append_
  simp only [hts, List.getElem?_toArray, List.getElem?_cons_zero, List.getElem?_cons_succ]
  rw [Sem.run_bind, run_und w hu, Result.andThen_ok]
  dsimp only
  rw [Sem.run_bind, run_size w hsz, Result.andThen_ok]
  rcases notInt_inv hni with h1 | ⟨xt, d, h1, h2, h3⟩
  · rw [h1]
    dsimp only
    rw [Sem.run_bind, Sem.run_pure, Result.andThen_ok]
    simp only [Bool.false_eq_true, if_false, Bool.not_false, if_true]
    rw [Sem.run_bind, hlen, Result.andThen_ok, if_neg (by omega)]
    rw [Sem.run_bind, run_info w hi, Result.andThen_ok]
    rw [if_neg (by simpa using g1)]
    rw [Sem.run_bind, run_info w hi, Result.andThen_ok]
    rw [if_neg g2]
    rw [Sem.run_bind, hch, Result.andThen_ok]
    rw [Sem.run_bind, run_info _ hi, Result.andThen_ok]
    rw [Sem.run_bind, run_askRoom, Result.andThen_ok]
    rw [Sem.run_bind, hold, Result.andThen_ok]
    rw [Sem.run_bind, hus, Result.andThen_ok]
    rw [Sem.run_bind, run_zero _ hz0, Result.andThen_ok]
    rfl
  · rw [h1]
    dsimp only
    rw [Sem.run_bind, run_und w h2, Result.andThen_ok]
    cases d <;> first | exact absurd rfl (h3 _) | skip
    all_goals
      rw [Sem.run_bind, Sem.run_pure, Result.andThen_ok]
      simp only [Bool.false_eq_true, if_false, Bool.not_false, if_true]
      rw [Sem.run_bind, hlen, Result.andThen_ok, if_neg (by omega)]
      rw [Sem.run_bind, run_info w hi, Result.andThen_ok]
      rw [if_neg (by simpa using g1)]
      rw [Sem.run_bind, run_info w hi, Result.andThen_ok]
      rw [if_neg g2]
      rw [Sem.run_bind, hch, Result.andThen_ok]
      rw [Sem.run_bind, run_info _ hi, Result.andThen_ok]
      rw [Sem.run_bind, run_askRoom, Result.andThen_ok]
      rw [Sem.run_bind, hold, Result.andThen_ok]
      rw [Sem.run_bind, hus, Result.andThen_ok]
      rw [Sem.run_bind, run_zero _ hz0, Result.andThen_ok]
      rfl
end ops
end Go.Ev
