/- Bytes of a string as a row that the call owns: a beginning, a join, the reading back. -/
import Derived.Test.YtnbimbcnfhninaaFr
import Derived.Test.YtnbimbcnfhninaaProg
import Derived.Test.YtnbimbcnfhninaaWWords
import Derived.Lib.Strings
namespace Go.Proofs.Ytnbimbcnfhninaa
open Go.RowKit Go.Proofs.YtnbimbcnfhninaaW.PrintWords

theorem bytesOf_append (s t : ByteArray) : bytesOf (s ++ t) = bytesOf s ++ bytesOf t := by simp [bytesOf]
theorem bytesOf_extract (s : ByteArray) (n : Nat) : bytesOf (s.extract 0 n) = (bytesOf s).take n := by
  unfold bytesOf
  rw [Lib.extract_data, List.drop_zero, Nat.sub_zero, List.map_take]
theorem strOfNums_bytesOf (s : ByteArray) : strOfNums (bytesOf s) = s := by
  obtain ⟨⟨l⟩⟩ := s
  simp [strOfNums, bytesOf, Function.comp_def]

/-- What a row owns, a beginning of it owns. -/
theorem own_take {w : World} {base : Nat} {e : TypeId} {A : Option Addr} {n c : Nat} {xs : List Value} (h : w.ownsRow base e 1 (.slice A n c) n xs) (m : Nat) (hm : m ≤ n) : w.ownsRow base e 1 (.slice A m c) m (xs.take m) := by
  obtain ⟨h1, h2⟩ := h
  refine ⟨by simp; omega, ?_⟩
  rcases h2 with ⟨h2, h3⟩ | ⟨g, cap, cur, hv, hg, hh, q1, q2, q3, q4⟩
  · left
    injection h2 with a b c
    subst a; subst b; subst c
    obtain rfl : m = 0 := by omega
    exact ⟨rfl, rfl⟩
  · right
    injection hv with a b c
    subst a; subst c
    refine ⟨g, _, cur, rfl, hg, hh, by omega, q2, q3, ?_⟩
    rw [← q4]
    simp [List.take_take]
    omega

end Go.Proofs.Ytnbimbcnfhninaa
