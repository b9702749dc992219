/- A configuration as a value; is it right? -/
import Derived.Test.YtaicecnfodhlcaaMState
set_option linter.unusedVariables false
set_option linter.unusedSimpArgs false
namespace Go.Proofs.Ytaicecnfodhlcaa
open Go.RowKit Go.Deep

def inR (n lo hi : Int) : Bool := decide (lo ≤ n) && decide (n ≤ hi)
def Cfg.nums (c : Cfg) : Bool := inR (c.vs.length : Int) 1 4 && inR c.so 1 8 && inR c.op 1 8 && inR c.sh 1 16 && inR c.sl 2 1048576 && inR c.bx 1 64 && inR c.ad 1 64 && inR c.pi 1 64 && inR c.ch 1 64 && inR c.fr 16 65536 && inR c.inn 1 131072 && inR c.out 1 131072
def Cfg.right (c : Cfg) : Bool := c.vs.all View.ok && c.nums
abbrev cfgV (c : Cfg) (a : Option Addr) (cap : Nat) : Value := .agg #[.slice a c.vs.length cap, .int .i64 c.so, .int .i64 c.op, .int .i64 c.sh, .int .i64 c.sl, .int .i64 c.bx, .int .i64 c.ad, .int .i64 c.pi, .int .i64 c.ch, .int .i64 c.fr, .int .i64 c.inn, .int .i64 c.out]
abbrev cfgO (c : Cfg) (a : Option Addr) (cap : Nat) : Obj := .cells #[.slice a c.vs.length cap, .int .i64 c.so, .int .i64 c.op, .int .i64 c.sh, .int .i64 c.sl, .int .i64 c.bx, .int .i64 c.ad, .int .i64 c.pi, .int .i64 c.ch, .int .i64 c.fr, .int .i64 c.inn, .int .i64 c.out] 26
end Go.Proofs.Ytaicecnfodhlcaa
