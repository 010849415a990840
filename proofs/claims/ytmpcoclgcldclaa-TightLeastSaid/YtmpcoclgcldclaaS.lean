/- The walk of the reference's has. -/
import Derived.Test.YtmpcoclgcldclaaR
import Derived.Test.YtmpcoclgcldclaaMap
namespace Go.Proofs.Ytmpcoclgcldclaa
open Go.RowKit

/-- cells of pairs, one behind the other -/
def flat2 (L : List (Int × Int)) : List Value := L.flatMap fun p => [.int .i64 p.1, .int .i64 p.2]
theorem flat2_length (L : List (Int × Int)) : (flat2 L).length = L.length * 2 := by
  unfold flat2
  induction L with
  | nil => rfl
  | cons p L ih => simp only [List.flatMap_cons, List.length_append, ih, List.length_cons, List.length_nil]; omega
theorem flat2_at : ∀ (L : List (Int × Int)) (j : Nat) (p : Int × Int), L[j]? = some p → (flat2 L)[2 * j]? = some (.int .i64 p.1) ∧ (flat2 L)[2 * j + 1]? = some (.int .i64 p.2)
  | [], j, p, h => by simp at h
  | q :: L, 0, p, h => by
    have : q = p := by simpa using h
    subst this
    exact ⟨rfl, rfl⟩
  | q :: L, j + 1, p, h => by
    have h' : L[j]? = some p := by simpa using h
    obtain ⟨h1, h2⟩ := flat2_at L j p h'
    have e : flat2 (q :: L) = .int .i64 q.1 :: .int .i64 q.2 :: flat2 L := rfl
    rw [e, show 2 * (j + 1) = 2 * j + 1 + 1 by omega]
    exact ⟨by simpa using h1, by simpa using h2⟩
theorem flat2_append (L M : List (Int × Int)) : flat2 (L ++ M) = flat2 L ++ flat2 M := by simp [flat2]
/-- the slice over A reads as these pairs -/
def Rd2 (w : World) (B : Nat) (A : Option Addr) (L : List (Int × Int)) : Prop := Rd w B A (flat2 L)
theorem Rd2.at_ {w : World} {B : Nat} {A : Option Addr} {L : List (Int × Int)} {j : Nat} (h : Rd2 w B A L) (hj : j < L.length) :
    ∃ b o p, A = some ⟨b, o, none⟩ ∧ b < B ∧ w.cell? ⟨b, o + j * 2, none⟩ = some (.int .i64 p.1) ∧ w.cell? ⟨b, o + j * 2 + 1, none⟩ = some (.int .i64 p.2) ∧ L[j]? = some p := by
  obtain ⟨b, o, e, hb, hc⟩ := h (by rw [flat2_length]; omega)
  obtain ⟨h1, h2⟩ := flat2_at L j L[j] (List.getElem?_eq_getElem hj)
  rw [Nat.mul_comm 2 j] at h1 h2
  exact ⟨b, o, L[j], e, hb, hc _ _ h1, by rw [Nat.add_assoc]; exact hc _ _ h2, List.getElem?_eq_getElem hj⟩

theorem has_snoc {L : List (Int × Int)} {j : Nat} {p q : Int × Int} (h : q ∉ L.take j) (hp : L[j]? = some p) (hne : q ≠ p) : Hid (q ∉ L.take (j + 1)) := by
  show ¬ _
  rw [take_snoc hp, List.mem_append]
  rintro (h' | h')
  · exact h h'
  · exact hne (by simpa using h')
set_option maxHeartbeats 1000000 in
set_option maxRecDepth 100000 in
theorem has_any (L : List (Int × Int)) (x y : Int) (A : Option Addr) (c : Nat) (w : World) (hl : L.length ≤ 1000000000000) (hr : Rd2 w w.heap.size A L) :
    Calls Try.prog 114 #[.slice A L.length c, .agg #[.int .i64 x, .int .i64 y]] w fun e w' => e = .returned (.bool (decide ((x, y) ∈ L))) ∧ Below w.heap.size w w' := by
  have HR := Lib.hid hr; clear hr
  go_enter Try.func114, Try.ntmps114
  go_wp2_with fail
  generalize hW0 : w.alloc (.cells #[.int .i64 x, .int .i64 y] 86) = W0
  have hk0 : Blk W0 w.heap.size 86 #[.int .i64 x, .int .i64 y] := by rw [← hW0]; exact Blk.new w 86 _
  have hb0 : Below w.heap.size w W0 := by rw [← hW0]; exact (Below.refl _ _).alloc (Nat.le_refl _) _
  have HK0 := Lib.hid hk0; have HB0 := Lib.hid hb0
  clear hW0 hk0 hb0
  go_loopw [6, 9] (fun _ i wr => ∃ j : Nat, j ≤ L.length ∧ i = .int .i64 j ∧ Hid ((x, y) ∉ L.take j) ∧ Hid (Blk wr w.heap.size 86 #[.int .i64 x, .int .i64 y]) ∧ Hid (Below w.heap.size w wr)) (fun _ i _ => L.length - (intOf i).toNat)
  case atStart => exact ⟨0, Nat.zero_le _, rfl, by simp [Hid], HK0, HB0⟩
  case round =>
    clear HK0 HB0
    obtain ⟨j, hj, rfl, HN, HK, HB⟩ := hrel
    by_cases hlt : j < L.length
    · obtain ⟨b, o, p, rfl, hb, hc1, hc2, hp⟩ := (show Rd2 wr w.heap.size A L from HR.out.below HB.out).at_ hlt
      obtain ⟨p1, p2⟩ := p
      have HP := Lib.hid hp; clear hp
      have q0 : wr.cell? ⟨w.heap.size, 0, none⟩ = some (.int .i64 x) := by rw [HK.out.cell]; rfl
      have q1 : wr.cell? ⟨w.heap.size, 1, none⟩ = some (.int .i64 y) := by rw [HK.out.cell]; rfl
      have hlt0 : w.heap.size < wr.heap.size := HK.out.lt
      by_cases h1 : x = p1
      · by_cases h2 : y = p2
        · subst h1
          subst h2
          have HF : Hid (decide ((x, y) ∈ L) = true) := decide_eq_true (List.mem_of_getElem? HP.out)
          go_wp2_with fail
          go_ret
          exact ⟨by rw [HF.out]; rfl, HB.out.alloc HB.out.size _⟩
        · subst h1
          have HNE : Hid ((x, y) ≠ (x, p2)) := fun e => h2 (congrArg Prod.snd e)
          have h2' : (y == p2) = false := by simpa using h2
          go_wp2_with fail
          go_roundw
          case rel => exact ⟨j + 1, by omega, by go_num, has_snoc HN.out HP.out HNE.out, HK.out.alloc _, HB.out.alloc HB.out.size _⟩
          case measure => simp [intOf]; omega
      · have HNE : Hid ((x, y) ≠ (p1, p2)) := fun e => h1 (congrArg Prod.fst e)
        have h1' : (x == p1) = false := by simpa using h1
        go_wp2_with fail
        go_roundw
        case rel => exact ⟨j + 1, by omega, by go_num, has_snoc HN.out HP.out HNE.out, HK.out.alloc _, HB.out.alloc HB.out.size _⟩
        case measure => simp [intOf]; omega
    · have HF : Hid (decide ((x, y) ∈ L) = false) := decide_eq_false (by
        have h := HN.out
        rwa [List.take_of_length_le (by omega)] at h)
      go_wp2_with fail
      go_ret
      exact ⟨by rw [HF.out]; rfl, HB.out⟩
end Go.Proofs.Ytmpcoclgcldclaa
