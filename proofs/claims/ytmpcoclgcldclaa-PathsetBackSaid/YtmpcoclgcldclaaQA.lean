/- Plain words of the bytes of paths, and of their symbols. No program. -/
import Derived.Laws.BytesArg
import Derived.Lib.Bytealg
namespace Go.Proofs.Ytmpcoclgcldclaa

/-- may a path have this byte? -/
def pathB (c : Int) : Prop := 33 ≤ c ∧ c ≤ 126 ∧ c ≠ 63 ∧ c ≠ 35
instance (c : Int) : Decidable (pathB c) := by unfold pathB; infer_instance
/-- how many such bytes stand ahead -/
def cntB (c : Int) : Int := if c ≤ 35 then c - 33 else if c ≤ 63 then c - 34 else c - 35
def symI (c : Int) : Int := if pathB c then cntB c else -1
def bytI (i : Int) : Int := if i < 2 then i + 33 else if i < 29 then i + 34 else i + 35
theorem symI_yes {c : Int} (h : pathB c) : symI c = cntB c := if_pos h
theorem symI_no {c : Int} (h : ¬ pathB c) : symI c = -1 := if_neg h
theorem cntB_rng {c : Int} (h : pathB c) : 0 ≤ cntB c ∧ cntB c < 92 := by
  obtain ⟨h1, h2, h3, h4⟩ := h
  unfold cntB
  split
  · omega
  · split <;> omega
theorem cntB_step {c : Int} (h : pathB c) : cntB (c + 1) = cntB c + 1 := by
  obtain ⟨h1, h2, h3, h4⟩ := h
  unfold cntB
  by_cases a : c ≤ 35
  · rw [if_pos a, if_pos (by omega)]; omega
  · rw [if_neg a, if_neg (by omega)]
    by_cases b : c ≤ 63
    · rw [if_pos b, if_pos (by omega)]; omega
    · rw [if_neg b, if_neg (by omega)]; omega
theorem cntB_skip {c : Int} (h : c = 63 ∨ c = 35) : cntB (c + 1) = cntB c := by
  rcases h with rfl | rfl <;> decide
theorem bytI_cnt {c : Int} (h : pathB c) : bytI (cntB c) = c := by
  obtain ⟨h1, h2, h3, h4⟩ := h
  unfold cntB bytI
  by_cases a : c ≤ 35
  · rw [if_pos a, if_pos (by omega)]; omega
  · rw [if_neg a]
    by_cases b : c ≤ 63
    · rw [if_pos b, if_neg (by omega), if_pos (by omega)]; omega
    · rw [if_neg b, if_neg (by omega), if_neg (by omega)]; omega
theorem bytI_path {i : Int} (h0 : 0 ≤ i) (h1 : i < 92) : pathB (bytI i) ∧ cntB (bytI i) = i := by
  unfold pathB bytI cntB
  by_cases a : i < 2
  · rw [if_pos a]; exact ⟨by omega, by rw [if_pos (by omega)]; omega⟩
  · rw [if_neg a]
    by_cases b : i < 29
    · rw [if_pos b]; exact ⟨by omega, by rw [if_neg (by omega), if_pos (by omega)]; omega⟩
    · rw [if_neg b]; exact ⟨by omega, by rw [if_neg (by omega), if_neg (by omega)]; omega⟩
theorem symI_bytI {i : Int} (h0 : 0 ≤ i) (h1 : i < 92) : symI (bytI i) = i := by
  rw [symI_yes (bytI_path h0 h1).1]; exact (bytI_path h0 h1).2
theorem bytI_symI {c : Int} (h : pathB c) : bytI (symI c) = c := by rw [symI_yes h]; exact bytI_cnt h
theorem symI_rng {c : Int} (h : pathB c) : 0 ≤ symI c ∧ symI c < 92 := by rw [symI_yes h]; exact cntB_rng h
theorem symI_neg {c : Int} : symI c < 0 ↔ ¬ pathB c := by
  constructor
  · intro h hp; have := symI_rng hp; omega
  · intro h; rw [symI_no h]; omega
theorem symI_inj {a b : Int} (ha : pathB a) (hb : pathB b) (h : symI a = symI b) : a = b := by
  rw [← bytI_symI ha, ← bytI_symI hb, h]
theorem symI_lt {a b : Int} (ha : pathB a) (hb : pathB b) : symI a < symI b ↔ a < b := by
  rw [symI_yes ha, symI_yes hb]
  obtain ⟨a1, a2, a3, a4⟩ := ha
  obtain ⟨b1, b2, b3, b4⟩ := hb
  unfold cntB
  split <;> split <;> (try split) <;> (try split) <;> omega
theorem bytI_rng {i : Int} (h0 : 0 ≤ i) (h1 : i < 92) : 33 ≤ bytI i ∧ bytI i ≤ 126 := ⟨(bytI_path h0 h1).1.1, (bytI_path h0 h1).1.2.1⟩

/-- the first of the bytes of paths -/
def upTo (n : Nat) : List Int := (List.range n).map fun (i : Nat) => bytI (i : Int)
theorem upTo_len (n : Nat) : (upTo n).length = n := by simp [upTo]
theorem upTo_succ (n : Nat) : upTo (n + 1) = upTo n ++ [bytI n] := by simp [upTo, List.range_succ]
theorem upTo_at {n i : Nat} (h : i < n) : (upTo n)[i]? = some (bytI i) := by
  unfold upTo
  rw [List.getElem?_map, List.getElem?_range h]; rfl
/-- a string's bytes as numbers -/
def bs (s : ByteArray) : List Int := s.data.toList.map fun b => (b.toNat : Int)
theorem bs_len (s : ByteArray) : (bs s).length = s.size := by
  unfold bs
  rw [List.length_map, Array.length_toList]; rfl
theorem bs_rng {s : ByteArray} {c : Int} (h : c ∈ bs s) : 0 ≤ c ∧ c ≤ 255 := by
  obtain ⟨b, _, rfl⟩ := List.mem_map.1 h
  have := b.toNat_lt
  omega
theorem bs_ofNums {l : List Int} (h : ∀ c ∈ l, 0 ≤ c ∧ c ≤ 255) : bs (strOfNums l) = l := by
  unfold bs
  rw [strOfNums_data, List.map_map]
  conv => rhs; rw [← List.map_id l]
  refine List.map_congr_left fun c hc => ?_
  obtain ⟨h0, h1⟩ := h c hc
  simp only [Function.comp_apply, id]
  have : (UInt8.ofNat c.toNat).toNat = c.toNat := by
    rw [UInt8.toNat_ofNat']
    exact Nat.mod_eq_of_lt (by omega)
  rw [this]; omega
theorem bs_inj {s t : ByteArray} (h : bs s = bs t) : s = t := by
  have h2 : s.data.toList = t.data.toList := by
    have : ∀ (a b : List UInt8), a.map (fun b => (b.toNat : Int)) = b.map (fun b => (b.toNat : Int)) → a = b := by
      intro a
      induction a with
      | nil => intro b hb; cases b with
        | nil => rfl
        | cons y b => simp at hb
      | cons x a ih => intro b hb; cases b with
        | nil => simp at hb
        | cons y b =>
          simp only [List.map_cons, List.cons.injEq] at hb
          rw [ih b hb.2]
          have : x.toNat = y.toNat := by omega
          rw [UInt8.toNat_inj.1 this]
    exact this _ _ h
  cases s; cases t
  simp only at h2
  congr 1
  exact Array.toList_inj.1 h2
theorem bs_empty : bs ByteArray.empty = [] := rfl
/-- the bytes of paths as a text -/
def allS : ByteArray := strOfNums (upTo 92)
theorem allS_size : allS.size = 92 := by rw [← bs_len]; unfold allS; rw [bs_ofNums]; · exact upTo_len _
                                         · intro c hc
                                           obtain ⟨i, hi, rfl⟩ := List.mem_map.1 hc
                                           have := bytI_rng (i := (i : Int)) (by omega) (by have := List.mem_range.1 hi; omega)
                                           omega
theorem allS_bs : bs allS = upTo 92 := bs_ofNums fun c hc => by
  obtain ⟨i, hi, rfl⟩ := List.mem_map.1 hc
  have := bytI_rng (i := (i : Int)) (by omega) (by have := List.mem_range.1 hi; omega)
  omega
theorem index_all_nat : ∀ n : Fin 256, Lib.indexByte allS.data.toList (n.val.toUInt8) = symI (n.val : Int) := by decide +kernel
theorem index_all {c : Int} (h0 : 0 ≤ c) (h1 : c ≤ 255) : Lib.indexByte allS.data.toList c.toNat.toUInt8 = symI c := by
  have := index_all_nat ⟨c.toNat, by omega⟩
  simp only at this
  rw [this, Int.toNat_of_nonneg h0]
/-- the word of bytes, and the bytes of a word -/
def pathsB (l : List Int) : Bool := l.all fun c => decide (pathB c)
theorem pathsB_iff {l : List Int} : pathsB l = true ↔ ∀ c ∈ l, pathB c := by simp [pathsB]
theorem pathsB_no {l : List Int} {i : Nat} {c : Int} (hx : l[i]? = some c) (h : ¬ pathB c) : pathsB l = false := by
  rcases hb : pathsB l with _ | _
  · rfl
  · exact absurd (pathsB_iff.1 hb c (List.mem_of_getElem? hx)) h
theorem pathsB_snoc {l : List Int} {c : Int} : pathsB (l ++ [c]) = (pathsB l && decide (pathB c)) := by simp [pathsB, List.all_append]
def symW (l : List Int) : List Int := l.map symI
def bytW (w : List Int) : List Int := w.map bytI
theorem symW_bytW {w : List Int} (h : ∀ x ∈ w, 0 ≤ x ∧ x < 92) : symW (bytW w) = w ∧ pathsB (bytW w) = true := by
  constructor
  · unfold symW bytW
    rw [List.map_map]
    conv => rhs; rw [← List.map_id w]
    exact List.map_congr_left fun x hx => symI_bytI (h x hx).1 (h x hx).2
  · refine pathsB_iff.2 fun c hc => ?_
    obtain ⟨x, hx, rfl⟩ := List.mem_map.1 hc
    exact (bytI_path (h x hx).1 (h x hx).2).1
theorem bytW_symW {l : List Int} (h : pathsB l = true) : bytW (symW l) = l ∧ ∀ x ∈ symW l, 0 ≤ x ∧ x < 92 := by
  have h' := pathsB_iff.1 h
  constructor
  · unfold symW bytW
    rw [List.map_map]
    conv => rhs; rw [← List.map_id l]
    exact List.map_congr_left fun x hx => bytI_symI (h' x hx)
  · intro x hx
    obtain ⟨c, hc, rfl⟩ := List.mem_map.1 hx
    exact symI_rng (h' c hc)
theorem symW_inj {a b : List Int} (ha : pathsB a = true) (hb : pathsB b = true) (h : symW a = symW b) : a = b := by
  rw [← (bytW_symW ha).1, ← (bytW_symW hb).1, h]
end Go.Proofs.Ytmpcoclgcldclaa
