/- What the reference's walks lean on. -/
import Derived.Test.YtnblpbaflcgkkaaSackMore
namespace Go.Proofs.Ytnblpbaflcgkkaa
end Go.Proofs.Ytnblpbaflcgkkaa
