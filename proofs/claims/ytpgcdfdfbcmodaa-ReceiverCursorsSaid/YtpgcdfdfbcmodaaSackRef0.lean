/- What the reference's walks lean on. -/
import Derived.Test.YtpgcdfdfbcmodaaSackMore2
namespace Go.Proofs.Ytpgcdfdfbcmodaa
end Go.Proofs.Ytpgcdfdfbcmodaa
