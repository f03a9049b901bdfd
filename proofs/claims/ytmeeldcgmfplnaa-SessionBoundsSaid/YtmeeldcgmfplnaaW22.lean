/-
  Contracts at rows of whole numbers: slices.Contains, IndexFunc, DeleteFunc, Insert, out of the shelf's, in words of our own.
-/
import Derived.Test.YtmeeldcgmfplnaaW21
import Derived.Test.YtmeeldcgmfplnaaShelf
set_option linter.unusedVariables false
set_option linter.unusedSimpArgs false
namespace Go.Proofs.Ytmeeldcgmfplnaa
open Go.RowKit Go.Sort
attribute [local go_sem] setRow_setCell_same setRow_setCell_other setRow_cell_same setRow_cell_other setRow_frozen setRow_shape
attribute [local go_sem ↓] Go.wp_at_zero Go.wp_at_succ

abbrev encI : Int → Value := Value.int .i64

/-- The cells of a row of whole numbers. -/
theorem reps_ints {ok : Nat → Prop} {w : World} {xs : List Int} {cs : List Value} (h : Reps (kI64.K ok w) 1 xs cs) : cs = xs.map encI := by
  apply List.ext_getElem?
  intro i
  have hl : cs.length = xs.length := by have := h.1; omega
  rcases Nat.lt_or_ge i xs.length with hi | hi
  · have h1 := h.2 i _ (List.getElem?_eq_getElem hi)
    have h2 : ((cs.drop (i * 1)).take 1)[0]? = some (encI xs[i]) := by
      have h3 : (cs.drop (i * 1)).take 1 = [encI xs[i]] := h1
      rw [h3]; rfl
    rw [List.getElem?_take_of_lt (by decide), List.getElem?_drop, Nat.mul_one, Nat.add_zero] at h2
    rw [h2, List.getElem?_map, List.getElem?_eq_getElem hi]
    rfl
  · rw [List.getElem?_eq_none (by omega), List.getElem?_eq_none (by simpa using hi)]
theorem reps_ints_mk (ok : Nat → Prop) (w : World) (xs : List Int) : Reps (kI64.K ok w) 1 xs (xs.map encI) := by
  refine ⟨by simp, fun j p hj => ?_⟩
  show ((xs.map encI).drop (j * 1)).take 1 = [encI p]
  rw [Nat.mul_one, ← List.map_drop, ← List.map_take]
  have hlt := (List.getElem?_eq_some_iff.1 hj).1
  rw [List.drop_eq_getElem_cons hlt]
  have hv := (List.getElem?_eq_some_iff.1 hj).2
  simp [hv]
theorem one_ints (xs : List Int) : ∀ u ∈ xs.map encI, u.oneCell' = true := by
  intro u hu
  obtain ⟨x, _, rfl⟩ := List.mem_map.1 hu
  rfl

/-- A row of the call's own, of whole numbers: nil, or a block that is known whole. -/
theorem own_ints {ok : Nat → Prop} {lo : Nat} {w : World} {A : Option Addr} {c : Nat} {xs : List Int} (h : Own 3 kI64 ok lo w (.slice A xs.length c) xs) :
    (A = none ∧ c = 0 ∧ xs = []) ∨ ∃ g cur, A = some ⟨g, 0, none⟩ ∧ lo ≤ g ∧ ok g ∧ Blk w g 3 cur ∧ xs.length ≤ c ∧ c ≤ maxLen ∧ cur.size = c ∧ cur.toList.take xs.length = xs.map encI := by
  obtain ⟨h0, cs, ⟨hl, ho⟩, hr⟩ := h
  rcases ho with ⟨hv, hn0⟩ | ⟨g, cap, cur, hv, hg, hh, hnc, hcm, hsz, hpre⟩
  · injection hv with h1 h2 h3
    exact .inl ⟨h1, h3, List.eq_nil_of_length_eq_zero hn0⟩
  · injection hv with h1 _ h3
    subst h1 h3
    refine .inr ⟨g, cur, rfl, hg, h0 g rfl, hh, hnc, hcm, by rw [hsz]; exact Nat.mul_one _, ?_⟩
    rw [← reps_ints hr, ← hpre]
    congr 1
    exact (Nat.mul_one _).symm
theorem own_ints_mk {ok : Nat → Prop} {lo : Nat} {w : World} {g c : Nat} {cur : Array Value} {xs : List Int} (h0 : ok g) (hg : lo ≤ g) (hb : Blk w g 3 cur) (hnc : xs.length ≤ c) (hcm : c ≤ maxLen) (hsz : cur.size = c) (ht : cur.toList.take xs.length = xs.map encI) :
    Own 3 kI64 ok lo w (.slice (some ⟨g, 0, none⟩) xs.length c) xs := by
  refine ⟨fun k hk => ?_, xs.map encI, ⟨by rw [List.length_map]; exact (Nat.mul_one _).symm, .inr ⟨g, c, cur, rfl, hg, hb, hnc, hcm, by rw [hsz]; exact (Nat.mul_one _).symm, ?_⟩⟩, reps_ints_mk _ _ _⟩
  · have : g = k := by simpa [Value.ownBlock] using hk
    rw [← this]; exact h0
  · have : xs.length * kI64.sz = xs.length := Nat.mul_one _
    rw [this]; exact ht

/-! ### A row put in place -/
theorem putRow_blk {g : Nat} {t : TypeId} {cur : Array Value} {w : World} (h : Blk w g t cur) (off : Nat) (d : Array Int) : Blk (Sort.putRow encI w g off d) g t (Sort.putCells encI off d cur) := by
  unfold Blk at h ⊢
  simp [Sort.putRow, Sort.mapBlock, Array.getElem?_modify, h, Sort.onCells]
theorem putRow_grown (w : World) (g off q : Nat) (d : Array Int) : w.grownBy (Sort.putRow encI (Sort.ahead w q) g off d) (some g) :=
  ⟨rfl, rfl, rfl, by rw [Sort.size_putRow]; exact Nat.le_refl _, fun k hk hne => by
    have : g ≠ k := fun e => hne (by rw [e])
    simp [Sort.putRow, Sort.mapBlock, Array.getElem?_modify, this, Sort.ahead]⟩
theorem putCells_take (cur : Array Value) (f : List Int) (z : Int) (k : Nat) (h : f.length + k ≤ cur.size) : (Sort.putCells encI 0 (f ++ List.replicate k z).toArray cur).toList.take f.length = f.map encI := by
  apply List.ext_getElem?
  intro i
  rcases Nat.lt_or_ge i f.length with hi | hi
  · rw [List.getElem?_take_of_lt hi, List.getElem?_map, List.getElem?_eq_getElem hi]
    have h1 : i < cur.size := by omega
    simp only [Sort.putCells, Array.toList_mapIdx, List.getElem?_mapIdx, Array.getElem?_toList, Array.getElem?_eq_getElem h1, Option.map_some]
    rw [if_pos ⟨Nat.zero_le _, by simp; omega⟩]
    congr 2
    rw [Nat.sub_zero, getElem!_pos _ _ (by simp; omega)]
    simp [List.getElem_append_left hi]
  · rw [List.getElem?_take_eq_none hi, List.getElem?_eq_none (by simpa using hi)]
theorem size_putCells (off : Nat) (d : Array Int) (cur : Array Value) : (Sort.putCells encI off d cur).size = cur.size := by simp [Sort.putCells]

/-- What the row's cells hold, in the shelf's words. -/
theorem holds_of {w : World} {g : Nat} {cur : Array Value} {xs : List Int} (hb : Blk w g 3 cur) (ht : cur.toList.take xs.length = xs.map encI) : Sort.Holds encI w g 0 xs.toArray := by
  intro j hj
  have hj' : j < xs.length := by simpa using hj
  refine ⟨?_, hb.free _⟩
  rw [Nat.zero_add, hb.cells]
  have h1 : (cur.toList.take xs.length)[j]? = some (encI xs[j]) := by rw [ht, List.getElem?_map, List.getElem?_eq_getElem hj']; rfl
  rw [List.getElem?_take_of_lt hj', Array.getElem?_toList] at h1
  rw [h1]
  congr 2
  rw [getElem!_pos xs.toArray j hj]
  simp
theorem cells_of {w : World} {g : Nat} {cur : Array Value} {xs : List Int} (hb : Blk w g 3 cur) (ht : cur.toList.take xs.length = xs.map encI) (j : Nat) (v : Value) (hv : (xs.map encI)[j]? = some v) : w.cell? ⟨g, 0 + j, none⟩ = some v := by
  have hj : j < xs.length := by have := (List.getElem?_eq_some_iff.1 hv).1; simpa using this
  rw [Nat.zero_add, hb.cells, ← Array.getElem?_toList, ← hv, ← ht, List.getElem?_take_of_lt hj]

/-! ### slices.Contains -/
theorem contains_any (xs : List Int) (A : Option Addr) (c : Nat) (id : Int) (ok : Nat → Prop) (lo : Nat) (w : World) (h : Own 3 kI64 ok lo w (.slice A xs.length c) xs) :
    Calls Try.prog 42 #[.slice A xs.length c, .int .i64 id] w (fun e w' => e = .returned (.bool (xs.contains id)) ∧ w' = w) := by
  rcases own_ints h with ⟨rfl, rfl, rfl⟩ | ⟨g, cur, rfl, _, _, hb, hnc, hcm, hsz, ht⟩
  · exact Try.slices_Contains_int_empty none 0 id w
  · have hh := holds_of hb ht
    have h1 := Try.slices_Contains_int g 0 xs.length c xs id w (Nat.le_refl _) (by unfold maxLen at hcm; omega) (fun j hj => by
      have := (hh j (by simpa using hj)).1
      rw [this]
      congr 2
      rw [getElem!_pos xs.toArray j (by simpa using hj), List.getD_eq_getElem?_getD, List.getElem?_eq_getElem hj]
      simp)
    rw [List.take_length] at h1
    exact h1

/-! ### The two closures: x == id, x > id -/
theorem eq41_any (id x : Int) (gi : Nat) (w : World) (hi : w.cell? ⟨gi, 0, none⟩ = some (.int .i64 id)) : Calls Try.prog 41 #[.int .i64 x, .pointer (some ⟨gi, 0, none⟩)] w (fun e w' => e = .returned (.bool (x == id)) ∧ w' = w) := by
  go_enter Try.func41, Try.ntmps41
  go_wp2_with fail
  go_ret
  exact ⟨rfl, rfl⟩
theorem gt44_any (id x : Int) (gi : Nat) (w : World) (hi : w.cell? ⟨gi, 0, none⟩ = some (.int .i64 id)) : Calls Try.prog 44 #[.int .i64 x, .pointer (some ⟨gi, 0, none⟩)] w (fun e w' => e = .returned (.bool (decide (id < x))) ∧ w' = w) := by
  go_enter Try.func44, Try.ntmps44
  go_wp2_with fail
  go_ret
  exact ⟨rfl, rfl⟩
theorem gives41 (id x : Int) (gi : Nat) (W : World) (hc : W.cell? ⟨gi, 0, none⟩ = some (.int .i64 id)) : FnGives Try.prog 41 #[.pointer (some ⟨gi, 0, none⟩)] #[encI x] (.bool (x == id)) W :=
  (eq41_any id x gi W hc).mono fun _ _ ⟨h1, h2⟩ => ⟨h1, 0, h2⟩
theorem gives44 (id x : Int) (gi : Nat) (W : World) (hc : W.cell? ⟨gi, 0, none⟩ = some (.int .i64 id)) : FnGives Try.prog 44 #[.pointer (some ⟨gi, 0, none⟩)] #[encI x] (.bool (decide (id < x))) W :=
  (gt44_any id x gi W hc).mono fun _ _ ⟨h1, h2⟩ => ⟨h1, 0, h2⟩

/-! ### slices.IndexFunc, DeleteFunc -/
/-- The place of the first number that is greater; -1: there is none. -/
theorem below_drewN'' {B : Nat} {a w : World} (h : Below B a w) (q : Nat) : Below B a (w.drewN q) := ⟨h.os, h.tape, h.output, h.size, h.block⟩
def placeG (xs : List Int) (id : Int) : Option Nat := xs.findIdx? (fun x => decide (id < x))
theorem idxBy_eq (p : Int → Bool) (xs : List Int) : Lib.idxBy (fun _ y => p y) xs default = placeI (xs.findIdx? p) := by
  have h : ∀ (l : List Int) (i : Nat), Lib.idxByFrom (fun _ y => p y) default l i = match l.findIdx? p with | some k => ((i + k : Nat) : Int) | none => -1 := by
    intro l
    induction l with
    | nil => intro i; rfl
    | cons y r ih =>
      intro i
      rw [Lib.idxByFrom, List.findIdx?_cons]
      by_cases hy : p y = true
      · simp [hy]
      · rw [if_neg hy, if_neg hy, ih]
        cases r.findIdx? p with
        | none => rfl
        | some k =>
          show ((i + 1 + k : Nat) : Int) = ((i + (k + 1) : Nat) : Int)
          congr 1
          omega
  unfold Lib.idxBy
  rw [h]
  cases xs.findIdx? p with
  | none => rfl
  | some k => simp [placeI]
theorem indexG_any (xs : List Int) (A : Option Addr) (c : Nat) (id : Int) (gi : Nat) (ok : Nat → Prop) (lo : Nat) (w : World) (h : Own 3 kI64 ok lo w (.slice A xs.length c) xs) (hi : w.cell? ⟨gi, 0, none⟩ = some (.int .i64 id)) :
    Calls Try.prog 43 #[.slice A xs.length c, .func (.func 44) #[] #[.pointer (some ⟨gi, 0, none⟩)]] w (PostN (placeI (placeG xs id)) w) := by
  have eg : ∀ args w, (callFunc 44 args).run Try.prog w = .ok (.enter 44 args) w := enters_of Try.func44 (by kernel_rfl) rfl
  have hgl := World.block_lt_of_cell? w _ hi
  rcases own_ints h with ⟨rfl, rfl, rfl⟩ | ⟨g, cur, rfl, hlo, hok, hb, hnc, hcm, hsz, ht⟩
  · exact (Try.slices_IndexFunc_empty (α := Int) none 0 _ w).mono fun e w' ⟨he, hw⟩ => ⟨he, hw ▸ Below.refl _ _⟩
  · have h1 := Try.slices_IndexFunc encI (fun x => decide (id < x)) 44 #[.pointer (some ⟨gi, 0, none⟩)] eg g 0 xs.length c xs w (fun W x hbW => gives44 id x gi W ((hbW.cell (p := ⟨gi, 0, none⟩) hgl).trans hi)) (Nat.le_refl _) (by unfold maxLen at hcm; omega)
      (fun j hj => cells_of hb ht j _ (by rw [List.getElem?_map, List.getElem?_eq_getElem hj, getElem!_pos xs j hj]; rfl))
    rw [List.take_length, idxBy_eq] at h1
    exact h1.mono fun e w' ⟨he, q, hw⟩ => ⟨he, hw ▸ below_drewN'' (Below.refl _ _) q⟩

theorem deleteI_any (xs : List Int) (A : Option Addr) (c : Nat) (id : Int) (gi : Nat) (ok : Nat → Prop) (lo : Nat) (w : World) (h : Own 3 kI64 ok lo w (.slice A xs.length c) xs) (hi : w.cell? ⟨gi, 0, none⟩ = some (.int .i64 id)) (hgi : gi < lo) :
    Calls Try.prog 40 #[.slice A xs.length c, .func (.func 41) #[] #[.pointer (some ⟨gi, 0, none⟩)]] w
      (fun e w' => e = .returned (.slice A (xs.filter (fun x => !(x == id))).length c) ∧ Own 3 kI64 ok lo w' (.slice A (xs.filter (fun x => !(x == id))).length c) (xs.filter (fun x => !(x == id))) ∧ w.grownBy w' (Value.slice A xs.length c).ownBlock) := by
  have eg : ∀ args w, (callFunc 41 args).run Try.prog w = .ok (.enter 41 args) w := enters_of Try.func41 (by kernel_rfl) rfl
  have hgl := World.block_lt_of_cell? w _ hi
  rcases own_ints h with ⟨rfl, rfl, rfl⟩ | ⟨g, cur, rfl, hlo, hok, hb, hnc, hcm, hsz, ht⟩
  · have HI := Aside.mk hi
    clear h hi hgi hgl
    simp only [List.length_nil, List.filter_nil]
    go_enter Try.func40, Try.ntmps40
    go_wp2_with fail
    refine (Try.slices_IndexFunc_empty (α := Int) none 0 _ w).mono ?_
    rintro e w' ⟨rfl, rfl⟩
    go_wp2_with fail
    go_ret
    exact ⟨rfl, Own.nil _ _ _ _ _, World.grownBy.refl _ _⟩
  · have h1 := Try.slices_DeleteFunc encI (fun _ => rfl) (fun x => x == id) 41 #[.pointer (some ⟨gi, 0, none⟩)] eg 0 (fun w => by kernel_rfl) g 0 c xs.toArray w
      (fun W x hbW => gives41 id x gi W ((hbW.cell (p := ⟨gi, 0, none⟩) hgl).trans hi))
      (fun n os dk x _ => gives41 id x gi _ (by
        unfold sortWorld
        rw [cell?_grow _ _ _ (by show gi < (Sort.putRow _ _ _ _ _).heap.size; rw [Sort.size_putRow]; exact hgl), Sort.cell?_putRow_other _ _ g 0 _ _ (Or.inl (by show gi ≠ g; omega))]
        exact hi)) (holds_of hb ht) (by simp; unfold maxLen at hcm; omega) (by simpa using hnc)
    have e1 : xs.toArray.size = xs.length := by simp
    have e2 : xs.toArray.toList = xs := rfl
    rw [e1, e2] at h1
    refine h1.mono fun e w' ⟨he, q, hw⟩ => ?_
    subst hw
    have hfl : (xs.filter fun x => !(x == id)).length ≤ xs.length := List.length_filter_le _ _
    refine ⟨he, own_ints_mk hok hlo (putRow_blk (w := Sort.ahead w q) hb 0 _) (by omega) hcm (by rw [size_putCells]; exact hsz) (putCells_take cur _ 0 _ (by omega)), putRow_grown w g 0 q _⟩

/-! ### slices.Insert of one number -/
def insI (xs : List Int) (i : Nat) (id : Int) : List Int := xs.take i ++ id :: xs.drop i
theorem insI_len (xs : List Int) (i : Nat) (id : Int) (hi : i ≤ xs.length) : (insI xs i id).length = xs.length + 1 := by
  simp [insI]; omega
/-- What Insert leaves. -/
def Post45 (xs : List Int) (i : Nat) (id : Int) (v : Value) (ok : Nat → Prop) (lo : Nat) (w : World) (e : Ending) (w' : World) : Prop :=
  ∃ A c, e = .returned (.slice A (insI xs i id).length c) ∧ Own 3 kI64 ok lo w' (.slice A (insI xs i id).length c) (insI xs i id) ∧ w.grownBy w' v.ownBlock ∧ ((Value.slice A (insI xs i id).length c).ownBlock = v.ownBlock ∨ (Value.slice A (insI xs i id).length c).ownBlock = some w.heap.size)

theorem shift_list {L m : List Value} {v : Value} {i n : Nat} (hL : L.take n = m) (hm : m.length = n) (hi : i < n) (hlen : n + 1 ≤ L.length) : (splice (splice L (i + 1) (m.drop i)) i [v]).take (n + 1) = m.take i ++ v :: m.drop i := by
  have h1 : (L.take (i + 1)).length = i + 1 := by rw [List.length_take]; omega
  have h2 : (m.drop i).length = n - i := by rw [List.length_drop, hm]
  have h3 : L.take i = m.take i := by rw [← hL, List.take_take, Nat.min_eq_left (by omega)]
  have h4 : (m.take i).length = i := by rw [List.length_take, hm]; omega
  have h5 : (splice L (i + 1) (m.drop i)).take i = m.take i := by
    unfold splice
    rw [List.take_append_of_le_length (by omega), List.take_take, Nat.min_eq_left (by omega), h3]
  have h6 : (splice L (i + 1) (m.drop i)).drop (i + 1) = m.drop i ++ L.drop (i + 1 + (m.drop i).length) := by
    unfold splice
    rw [List.drop_append, List.drop_of_length_le (by omega), h1, Nat.sub_self]
    rfl
  rw [show splice (splice L (i + 1) (m.drop i)) i [v] = (splice L (i + 1) (m.drop i)).take i ++ ([v] ++ (splice L (i + 1) (m.drop i)).drop (i + 1)) from rfl, h5, h6]
  rw [← List.append_assoc, ← List.append_assoc, List.take_append_of_le_length (by simp [h2, h4]; omega), List.take_of_length_le (by simp [h2, h4]; omega)]
  simp
theorem grow_list {L m : List Value} {v : Value} {i n : Nat} (hL : L.take i = m.take i) (hm : m.length = n) (hi : i < n) (hlen : n + 1 ≤ L.length) : (splice (splice L i [v]) (i + 1) (m.drop i)).take (n + 1) = m.take i ++ v :: m.drop i := by
  have h2 : (m.drop i).length = n - i := by rw [List.length_drop, hm]
  have h4 : (m.take i).length = i := by rw [List.length_take, hm]; omega
  have h5 : (splice L i [v]).take (i + 1) = m.take i ++ [v] := by
    unfold splice
    rw [hL, ← List.append_assoc, List.take_append_of_le_length (by simp [h4]), List.take_of_length_le (by simp [h4])]
  rw [show splice (splice L i [v]) (i + 1) (m.drop i) = (splice L i [v]).take (i + 1) ++ (m.drop i ++ (splice L i [v]).drop (i + 1 + (m.drop i).length)) from rfl, h5]
  rw [← List.append_assoc, List.take_append_of_le_length (by simp [h2, h4]; omega), List.take_of_length_le (by simp [h2, h4]; omega)]
  simp

theorem insert_any (xs : List Int) (A : Option Addr) (c i : Nat) (id : Int) (vb : Nat) (ok : Nat → Prop) (lo : Nat) (w : World) (h : Own 3 kI64 ok lo w (.slice A xs.length c) xs) (hi : i ≤ xs.length) (hn : xs.length < 1000)
    (hv : Blk w vb 3 #[.int .i64 id]) (hvb : some vb ≠ (Value.slice A xs.length c).ownBlock) (hlo : lo ≤ w.heap.size) (hfr : ok w.heap.size) :
    Calls Try.prog 45 #[.slice A xs.length c, .int .i64 i, .slice (some ⟨vb, 0, none⟩) 1 1] w (Post45 xs i id (.slice A xs.length c) ok lo w) := by
  have hvs : ∀ j v, ([Value.int .i64 id])[j]? = some v → w.cell? ⟨vb, 0 + j, none⟩ = some v := fun j v hj => by rw [Nat.zero_add, hv.cells]; simpa using hj
  have h1v : ∀ v ∈ [Value.int .i64 id], v.oneCell' = true := by intro v hv; rw [List.mem_singleton.1 hv]; rfl
  have hz : ∀ n, (Builtin.zeroCells (Value.int .i64 0).cells n).size = n := fun n => by rw [size_zeroCells]; exact Nat.mul_one _
  have hil := insI_len xs i id hi
  have grow : ∀ (a : Option Addr) (cs : List Value), a = A → cs = xs.map encI → xs.length ≤ c → c < xs.length + 1 → (a = none → xs.length = 0) → (∀ ad, a = some ad → ∀ j v, cs[j]? = some v → w.cell? (ad.add j) = some v) → i = xs.length → Calls Try.prog 45 #[.slice A xs.length c, .int .i64 i, .slice (some ⟨vb, 0, none⟩) 1 1] w (Post45 xs i id (.slice A xs.length c) ok lo w) := by
    intro a cs ha hcs hnc hroom hnil hcell he
    subst ha hcs he
    have h1 := Any2.slices_Insert_int_end_grow Try.laysIns a xs.length c vb 0 1 1 (xs.map encI) [.int .i64 id] w (by decide) hnc hroom (by omega) (by simp) rfl hnil hcell hvs h1v
    refine h1.mono fun e w' ⟨he, hw⟩ => ?_
    subst he hw
    have hge := grownCap_ge w (xs.length + 1) c 3
    have hle := grownCap_le_maxLen w (xs.length + 1) c 3 (by unfold maxLen; omega)
    have hins : insI xs xs.length id = xs ++ [id] := by simp [insI]
    refine ⟨some ⟨w.heap.size, 0, none⟩, grownCap w (xs.length + 1) c 3, by rw [hil]; rfl, ?_, ⟨rfl, rfl, rfl, by simp, fun k hk _ => Below.heap_alloc w.drew _ k hk⟩, .inr rfl⟩
    refine own_ints_mk hfr hlo (heap_alloc_new w.drew _) (by rw [hil]; exact hge) hle ?_ ?_
    · show ((xs.map encI ++ [Value.int .i64 id]).toArray ++ Builtin.zeroCells (Value.int .i64 0).cells (grownCap w (xs.length + 1) c 3 - (xs.length + 1))).size = _
      rw [Array.size_append, hz]
      simp
      omega
    · rw [hins, Array.toList_append, List.take_append_of_le_length (by simp), List.take_of_length_le (by simp)]
      simp
  rcases own_ints h with ⟨rfl, rfl, rfl⟩ | ⟨g, cur, rfl, hlo', hok, hb, hnc, hcm, hsz, ht⟩
  · exact grow none [] rfl rfl (Nat.le_refl _) (by simp) (fun _ => rfl) (fun ad h => by cases h) (by simpa using hi)
  · have hne : vb ≠ g := fun e => hvb (by rw [e]; rfl)
    have hcz : c ≤ 9223372036854775807 := by unfold maxLen at hcm; omega
    have hsp : ∀ j, j < c → (w.cell? ⟨g, j, none⟩).isSome = true := fun j hj => by rw [hb.cells, Array.getElem?_eq_getElem (by omega)]; rfl
    by_cases hroom : xs.length + 1 ≤ c
    · by_cases he : i = xs.length
      · subst he
        have h1 := Any2.slices_Insert_int_end_room Try.laysIns g 0 xs.length c vb 0 1 1 [.int .i64 id] w (by decide) hroom hcz rfl (fun j hj => by rw [Nat.zero_add]; exact hsp _ (by omega)) (fun j hj => hb.free _) hvs h1v
        refine h1.mono fun e w' ⟨he, hw⟩ => ?_
        obtain ⟨c1, hb1, he1⟩ := Blk.setCells [.int .i64 id] (0 + xs.length) cur w hb (by simp; omega)
        subst he hw
        have hins : insI xs xs.length id = xs ++ [id] := by simp [insI]
        have hsz1 : c1.size = c := by rw [← Array.length_toList, he1, length_splice _ _ _ (by simp; omega)]; simpa using hsz
        refine ⟨some ⟨g, 0, none⟩, c, by rw [hil], own_ints_mk hok hlo' hb1 (by rw [hil]; exact hroom) hcm hsz1 ?_, grown_setCells g _ _ w, .inl rfl⟩
        rw [hil, he1, hins]
        unfold splice
        rw [Nat.zero_add, ht, ← List.append_assoc, List.take_append_of_le_length (by simp), List.take_of_length_le (by simp)]
        simp
      · have hlt : i < xs.length := by omega
        have h1 := Any2.slices_Insert_int_shift Try.laysIns g 0 xs.length c i vb 0 1 1 (xs.map encI) [.int .i64 id] w hlt (by decide) hroom hcz hne (by simp) rfl (fun j v hv => cells_of hb ht j v hv) (fun j hj => by rw [Nat.zero_add]; exact hsp _ (by omega)) (fun j _ => hb.free _)
          hvs (one_ints xs) h1v 3 3 1 c (by unfold Blk at hv; simp [World.shape?, hv]) (by unfold Blk at hb; simp [World.shape?, hb, hsz]) (by omega) (hv.free _) (hv.free _)
        refine h1.mono fun e w' ⟨he, hw⟩ => ?_
        have hd : ((xs.map encI).drop i).length = xs.length - i := by simp
        obtain ⟨c1, hb1, he1⟩ := Blk.setCells ((xs.map encI).drop i) (0 + (i + 1)) cur w.drew hb.drew (by rw [hd]; omega)
        have hsz1 : c1.size = c := by rw [← Array.length_toList, he1, length_splice _ _ _ (by rw [hd]; simp; omega)]; simpa using hsz
        obtain ⟨c2, hb2, he2⟩ := Blk.setCells [.int .i64 id] (0 + i) c1 _ hb1 (by simp; omega)
        have hsz2 : c2.size = c := by rw [← Array.length_toList, he2, length_splice _ _ _ (by simp; omega)]; simpa using hsz1
        subst he hw
        have k1 := grown_setCells g ((xs.map encI).drop i) (0 + (i + 1)) w.drew
        have k2 := grown_setCells g [.int .i64 id] (0 + i) (w.drew.setCells g (0 + (i + 1)) ((xs.map encI).drop i))
        refine ⟨some ⟨g, 0, none⟩, c, by rw [hil], own_ints_mk hok hlo' hb2 (by rw [hil]; exact hroom) hcm hsz2 ?_, ⟨k2.os.trans k1.os, k2.tape.trans k1.tape, k2.output.trans k1.output, Nat.le_trans k1.size k2.size, fun k hk hne => (k2.block k (Nat.lt_of_lt_of_le hk k1.size) hne).trans (k1.block k hk hne)⟩, .inl rfl⟩
        rw [hil, he2, he1, Nat.zero_add, Nat.zero_add, shift_list ht (by simp) hlt (by simp; omega)]
        simp [insI]
    · by_cases he : i = xs.length
      · exact grow (some ⟨g, 0, none⟩) (xs.map encI) rfl rfl hnc (by omega) (fun e => by cases e) (fun ad e j v hv => by
          injection e with e
          subst e
          have := cells_of hb ht j v hv
          rw [Addr.add_lit]
          exact this) he
      · have hlt : i < xs.length := by omega
        have h1 := Any2.slices_Insert_int_grow Try.laysIns g 0 xs.length c i vb 0 1 1 (xs.map encI) [.int .i64 id] w hlt (by decide) hnc (by omega) (by omega) (by simp) rfl (fun j v hv => cells_of hb ht j v hv) hvs (one_ints xs) h1v
        refine h1.mono fun e w' ⟨he, hw⟩ => ?_
        have hge := grownCap_ge w (xs.length + 1) c 3
        have hle := grownCap_le_maxLen w (xs.length + 1) c 3 (by unfold maxLen; omega)
        change w' = (((w.alloc (.cells (((xs.map encI).take i).toArray ++ Builtin.zeroCells (Value.int .i64 0).cells (xs.length + 1 - i) ++ Builtin.zeroCells (Value.int .i64 0).cells (grownCap w (xs.length + 1) c 3 - (xs.length + 1))) 3)).drew.setCells w.heap.size i [.int .i64 id]).drew).setCells w.heap.size (i + 1) ((xs.map encI).drop i) at hw
        change e = .returned (.slice (some ⟨w.heap.size, 0, none⟩) (xs.length + 1) (grownCap w (xs.length + 1) c 3)) at he
        generalize grownCap w (xs.length + 1) c 3 = cap at *
        have hd : ((xs.map encI).drop i).length = xs.length - i := by simp
        have ht4 : ((xs.map encI).take i).length = i := by simp; omega
        have hL0 : (((xs.map encI).take i).toArray ++ Builtin.zeroCells (Value.int .i64 0).cells (xs.length + 1 - i) ++ Builtin.zeroCells (Value.int .i64 0).cells (cap - (xs.length + 1))).size = cap := by
          rw [Array.size_append, Array.size_append, hz, hz, List.size_toArray, ht4]; omega
        have hL1 : (((xs.map encI).take i).toArray ++ Builtin.zeroCells (Value.int .i64 0).cells (xs.length + 1 - i) ++ Builtin.zeroCells (Value.int .i64 0).cells (cap - (xs.length + 1))).toList.take i = (xs.map encI).take i := by
          rw [Array.toList_append, Array.toList_append, List.append_assoc, List.take_append_of_le_length (by rw [List.toList_toArray, ht4]; omega), List.toList_toArray, List.take_of_length_le (by omega)]
        generalize (((xs.map encI).take i).toArray ++ Builtin.zeroCells (Value.int .i64 0).cells (xs.length + 1 - i) ++ Builtin.zeroCells (Value.int .i64 0).cells (cap - (xs.length + 1))) = L0 at *
        obtain ⟨c1, hb1, he1⟩ := Blk.setCells [.int .i64 id] i L0 (w.alloc (.cells L0 3)).drew (Blk.new w 3 L0) (by simp; omega)
        have hsz1 : c1.size = cap := by rw [← Array.length_toList, he1, length_splice _ _ _ (by simp; omega)]; simpa using hL0
        obtain ⟨c2, hb2, he2⟩ := Blk.setCells ((xs.map encI).drop i) (i + 1) c1 _ hb1.drew (by rw [hd]; omega)
        have hsz2 : c2.size = cap := by rw [← Array.length_toList, he2, length_splice _ _ _ (by rw [hd]; simp; omega)]; simpa using hsz1
        have k1 := grown_setCells w.heap.size [.int .i64 id] i (w.alloc (.cells L0 3)).drew
        have k2 := grown_setCells w.heap.size ((xs.map encI).drop i) (i + 1) (((w.alloc (.cells L0 3)).drew.setCells w.heap.size i [.int .i64 id]).drew)
        subst he hw
        refine ⟨some ⟨w.heap.size, 0, none⟩, cap, by rw [hil], own_ints_mk hfr hlo hb2 (by rw [hil]; exact hge) hle hsz2 ?_, ⟨k2.os.trans k1.os, k2.tape.trans k1.tape, k2.output.trans k1.output, ?_, fun k hk hne => ?_⟩, .inr rfl⟩
        · rw [hil, he2, he1, grow_list hL1 (by simp) hlt (by simp; omega)]
          simp [insI]
        · have h3 := k1.size; have h4 := k2.size
          have h5 : (w.alloc (.cells L0 3)).drew.heap.size = w.heap.size + 1 := by simp [World.drew]
          have h6 : (((w.alloc (.cells L0 3)).drew.setCells w.heap.size i [.int .i64 id]).drew).heap.size = ((w.alloc (.cells L0 3)).drew.setCells w.heap.size i [.int .i64 id]).heap.size := rfl
          omega
        · have h5 : (w.alloc (.cells L0 3)).drew.heap.size = w.heap.size + 1 := by simp [World.drew]
          have h6 : k ≠ w.heap.size := by omega
          have h7 : some k ≠ some w.heap.size := fun e => h6 (by injection e)
          refine (k2.block k ?_ h7).trans ((k1.block k (by omega) h7).trans (Below.heap_alloc w _ k hk))
          have h8 := k1.size
          have h9 : (((w.alloc (.cells L0 3)).drew.setCells w.heap.size i [.int .i64 id]).drew).heap.size = ((w.alloc (.cells L0 3)).drew.setCells w.heap.size i [.int .i64 id]).heap.size := rfl
          omega
end Go.Proofs.Ytmeeldcgmfplnaa
