/-
  A part of the proof of TopEcho.
-/
import Derived.Test.YtfjifcfbmhpcaaaGreatDoorE32
import Derived.Test.YtfjifcfbmhpcaaaGreatDoorE33
import Derived.Test.YtfjifcfbmhpcaaaGreatDoorE00
set_option linter.defProp false
set_option linter.unusedVariables false
set_option linter.unusedSimpArgs false
namespace Go.Proofs.YtfjifcfbmhpcaaaGreatDoor
open Go
def ecW(a b c d:Nat):Option (Wd×Int×Int×Int):=match w0W a b c d with
 |none=>none
 |some v=>match q16 (qy3 a b c d) 64 PP v 100000 with
  |none=>none
  |some (h,x)=>match q16 (qy3 a b c d) 64 PP h 100000 with
   |none=>none
   |some (v2,y)=>match q16 (qy3 a b c d) 64 PP v2 100000 with
    |none=>none
    |some (v3,z)=>some (v3,x,y,z)
def qhz(a b c d:Nat):Bool:=match ecW a b c d with
 |none=>false
 |some (v,x,y,z)=>qwm v 90000 (q7x v.b)&&(decide (qw4 v.b.P=[x,y,z])&&(decide (0<x)&&(decide (0<y)&&decide (0<z))))
set_option maxRecDepth 1000000 in
def qu01(a b c d:Nat):qhz a b c d=true:=by kernel_rfl
end Go.Proofs.YtfjifcfbmhpcaaaGreatDoor
