/-
  A part of the proof of TopEcho.
-/
import Derived.Test.YtfjifcfbmhpcaaaGreatDoorE35
import Derived.Lib.LaidTab
import Derived.LaidSub
import Derived.LaidMore
import Derived.LaidLaws
import Derived.Lay
import Derived.MakeChecks
import Derived.Test.YtfjifcfbmhpcaaaGreatDoorE00
set_option linter.defProp false
set_option linter.unusedVariables false
set_option linter.unusedSimpArgs false
namespace Go.Proofs.YtfjifcfbmhpcaaaGreatDoor
open Go
open Go.Proofs.Tryz renaming prog → Zp
def tabL:List (String×DataW Unit):=[("internal/strconv.uint64pow10",Lib.tabData .u64 Lib.pow10Tab)]
def tab_base{W:World}(h:laidMetH Zp Rows.topEchoRow.laid W):qc4 [q65 W]:=by
 have b:=laidMetH.filter (λx=>x.1== "internal/strconv.uint64pow10") h;have e:Rows.topEchoRow.laid.filter (λx=>x.1== "internal/strconv.uint64pow10")=tabL:=by kernel_rfl
 rw[e,MakeChecks.laidMetH_plain _ _ _ (by kernel_rfl)]at b;have a:Zp.globalNamed "internal/strconv.uint64pow10"=some 0:=by kernel_rfl
 have w:Lib.TabIs Zp W "internal/strconv.uint64pow10" .u64 Lib.pow10Tab:=Lib.tabIs_of_head a (t:=486) (e:=291) (n:=20) (by kernel_rfl) Tryz.underlying486 Tryz.underlying291 (by kernel_rfl) (by kernel_rfl) b;intro H f;obtain⟨g,c,j,_⟩:=f;unfold Lib.TabIs World.var? at w;rw[a,Option.bind_some]at w;split at w
 .rename_i cs t d i;cases w;exact⟨t,d,c _ _ (j _ _ i)⟩
 .cases w
end Go.Proofs.YtfjifcfbmhpcaaaGreatDoor
