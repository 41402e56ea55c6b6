/- kernel.Taps, all. -/
import Derived.Test.YtdcpeeolfgohmaaTapsM
namespace Go.Proofs.Ytdcpeeolfgohmaa
open Go.RowKit

theorem kTaps_calls (kind from' tt i : Int) (w : World) :
    Calls Try.prog 47 #[.int .i64 kind, .int .i64 from', .int .i64 tt, .int .i64 i] w fun e w' => TapsEnd w kind from' tt i e w' := by
  by_cases hk : 1 ≤ kind ∧ kind ≤ 3
  · by_cases hf : sideB from' = true
    · by_cases ht : sideB tt = true
      · by_cases h0 : 0 ≤ i
        · by_cases h1 : i < tt
          · by_cases hfar : 15 * tt < from'
            · exact kTaps_err3 kind from' tt i w hk.1 hk.2 hf ht h0 h1 hfar
            · have bf := (sideB_iff _).1 hf
              have bt := (sideB_iff _).1 ht
              exact kTaps_ok kind from' tt i w ⟨hk.1, hk.2, bf.1, bf.2, bt.1, bt.2, h0, h1, by omega⟩
          · exact kTaps_err2 kind from' tt i w hk.1 hk.2 (.inr (.inr (.inr ⟨hf, ht, h0, by omega⟩)))
        · exact kTaps_err2 kind from' tt i w hk.1 hk.2 (.inr (.inr (.inl ⟨hf, ht, by omega⟩)))
      · exact kTaps_err2 kind from' tt i w hk.1 hk.2 (.inr (.inl ⟨hf, by simpa using ht⟩))
    · exact kTaps_err2 kind from' tt i w hk.1 hk.2 (.inl (by simpa using hf))
  · exact kTaps_err1 kind from' tt i w hk
end Go.Proofs.Ytdcpeeolfgohmaa
