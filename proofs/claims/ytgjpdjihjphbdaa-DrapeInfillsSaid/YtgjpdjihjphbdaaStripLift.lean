/- Open values of the laws of strips. -/
import Derived.Test.YtgjpdjihjphbdaaGroupsLift
import Derived.Test.YtgjpdjihjphbdaaSp1
namespace Go.Proofs.Ytgjpdjihjphbdaa
open Go.ChangeShapes Go.WideShapes Go.ChangeAt Go.RowKit

def stripShs : List Sh := [.agg [.int .i64, .int .i64, .int .i64, .slice (.int .i64), .slice (.int .i64)], .slice (.int .i64), .slice (.int .i64)]
theorem fits_strip {ms : List MV} (h : FitsL stripShs ms) : ∃ (a b c : Int) (fl lo xs ys : List Int), ms = [encS a b c fl lo, .sl (xs.map I64), .sl (ys.map I64)] ∧ fl.length ≤ 9223372036854775807 ∧ lo.length ≤ 9223372036854775807 ∧ xs.length ≤ 9223372036854775807 ∧ ys.length ≤ 9223372036854775807 := by
  obtain ⟨m1, r1, rfl, h1, h⟩ := fitsL_cons h
  obtain ⟨m2, r2, rfl, h2, h⟩ := fitsL_cons h
  obtain ⟨m3, r3, rfl, h3, h⟩ := fitsL_cons h
  obtain rfl := fitsL_nil h
  obtain ⟨ns, h6, rfl⟩ := fits_agg h1
  obtain ⟨n1, s1, rfl, g1, h7⟩ := fitsL_cons h6
  obtain ⟨n2, s2, rfl, g2, h7⟩ := fitsL_cons h7
  obtain ⟨n3, s3, rfl, g3, h7⟩ := fitsL_cons h7
  obtain ⟨n4, s4, rfl, g4, h7⟩ := fitsL_cons h7
  obtain ⟨n5, s5, rfl, g5, h7⟩ := fitsL_cons h7
  obtain rfl := fitsL_nil h7
  obtain ⟨a, rfl, _⟩ := fits_int g1
  obtain ⟨b, rfl, _⟩ := fits_int g2
  obtain ⟨c, rfl, _⟩ := fits_int g3
  obtain ⟨fl, rfl, hf, _⟩ := fits_ints g4
  obtain ⟨lo, rfl, hl, _⟩ := fits_ints g5
  obtain ⟨xs, rfl, hx, _⟩ := fits_ints h2
  obtain ⟨ys, rfl, hy, _⟩ := fits_ints h3
  exact ⟨a, b, c, fl, lo, xs, ys, rfl, Nat.le_trans hf maxLen_le, Nat.le_trans hl maxLen_le, Nat.le_trans hx maxLen_le, Nat.le_trans hy maxLen_le⟩
end Go.Proofs.Ytgjpdjihjphbdaa
