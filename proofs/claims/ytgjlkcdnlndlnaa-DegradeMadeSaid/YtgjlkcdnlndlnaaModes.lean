/- The law RightModes, walked: it answers true whatever the numbers. -/
import Derived.Test.YtgjlkcdnlndlnaaMade
import Derived.Test.YtgjlkcdnlndlnaaRow
namespace Go.Proofs.Ytgjlkcdnlndlnaa
open Go Go.Proofs.Ytgjlkcdnlndlnaa.Sx F
set_option linter.unusedVariables false
set_option linter.unusedSimpArgs false

theorem band_511 {n : Int} (h0 : 0 ≤ n) (h1 : n < 512) : band n 511 = n := by
  have : ∀ k : Fin 512, band (k.1 : Int) 511 = (k.1 : Int) := by decide +kernel
  have := this ⟨n.toNat, by omega⟩
  rwa [show ((⟨n.toNat, by omega⟩ : Fin 512).1 : Int) = n from Int.toNat_of_nonneg h0] at this
theorem band_7 (x : Int) : 0 ≤ band x 7 ∧ band x 7 < 8 := by
  have := band_le (x := x) (y := 7) (by decide) (by decide)
  omega
theorem band_77 (x : Int) : band (band x 7) 7 = band x 7 := fin8 (p := fun n => band n 7 = n) (by decide +kernel) (band_7 x).1 (band_7 x).2

/-- What one of no powers can without lists. -/
theorem can_plain (n u g : Int) (c : Cred) (hc : c.powers = 0) {w : Int} (hw0 : 0 ≤ w) (hw1 : w < 8) : CanS { metaZ with mode := n, uid := u, gid := g } c w =
    hasS w (if u = c.uid then (band n 511).fdiv (2 ^ 6) else if inS c g = true then band ((band n 511).fdiv (2 ^ 3)) 7 else band (band n 511) 7) := by
  have h1 : ¬ w < 0 := by omega
  have h2 : ¬ 7 < w := by omega
  have h3 : band c.powers 2 = 0 := by rw [hc]; decide +kernel
  by_cases hu : u = c.uid
  · simp [CanS, canS, metaZ, ofS, fromMode, permS, h1, h2, h3, hu]
  · by_cases hg : inS c g = true
    · simp [CanS, canS, metaZ, ofS, fromMode, permS, maskS, goS, ixP, h1, h2, h3, hu, hg, band_77]
    · simp [CanS, canS, metaZ, ofS, fromMode, permS, maskS, goS, ixP, h1, h2, h3, hu, hg]

end Go.Proofs.Ytgjlkcdnlndlnaa
