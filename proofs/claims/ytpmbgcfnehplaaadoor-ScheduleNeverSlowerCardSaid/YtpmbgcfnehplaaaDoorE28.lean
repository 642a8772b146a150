/- Legal of the reference of layer 40. Printed by gen_e28.py. -/
import Derived.Test.YtpmbgcfnehplaaaDoorE27
set_option linter.unusedVariables false
set_option linter.unusedSimpArgs false
namespace Go.Proofs.YtpmbgcfnehplaaaDoor
open Go.RowKit

end Go.Proofs.YtpmbgcfnehplaaaDoor
