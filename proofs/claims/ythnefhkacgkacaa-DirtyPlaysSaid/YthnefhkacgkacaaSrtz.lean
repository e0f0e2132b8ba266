/- slices.Sort of up to 255 words. -/
import Derived.Test.YthnefhkacgkacaaSrtk
namespace Go.Proofs.Ythnefhkacgkacaa
open Go.RowKit

theorem pdqOk : PdqOk 255 := fun base g n cap l d w h hn hl =>
  pdq_u base g n cap hn n 0 0 n l d w rfl (by omega) h (Nat.zero_le _) (Nat.le_refl _) (fun k h0 => absurd h0 (by omega)) hl

theorem sortOk255 : SortOk 255 := sortOk_of 255 (by omega) pdqOk
theorem sortOk_le {m : Nat} (hm : m ≤ 255) : SortOk m := fun base v xs w h hn => sortOk255 base v xs w h (Nat.le_trans hn hm)
end Go.Proofs.Ythnefhkacgkacaa
