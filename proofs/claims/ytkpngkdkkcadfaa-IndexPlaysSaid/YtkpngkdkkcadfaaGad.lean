/- A reduced text: the Index seat has no gauss.Add. -/
import Derived.Test.YtkpngkdkkcadfaaGau
namespace Go.Proofs.Ytkpngkdkkcadfaa
open Go.RowKit Flo
end Go.Proofs.Ytkpngkdkkcadfaa
