/- What the reference's walks lean on. -/
import Derived.Test.YtcmgmdgeimmbeaaSackMore2
namespace Go.Proofs.Ytcmgmdgeimmbeaa
end Go.Proofs.Ytcmgmdgeimmbeaa
