/- Short names of the rules, for walks. No conditions. -/
import Derived.Test.YtopmpbdjnkomoaaK28
namespace Go.Dat

variable [Tables]

abbrev wa := @Run.seq
abbrev wb := @OpsAt.nil
abbrev wc := @Run.ops0
abbrev wd := @Run.block
abbrev we := @Run.inBlock
abbrev wf := @Run.skip
abbrev wg := @Run.scope
abbrev wh := @Run.inScope
abbrev wi := @Run.label
abbrev wj := @Run.exit
abbrev wk := @Run.goto
abbrev wl := @OpsAt.q
abbrev wm := @OpsAt.qg
abbrev wn := @OpsAt.ev
abbrev wo := @OpsAt.evg
abbrev wp := @Ev.binI
abbrev wq := @Ev.len
abbrev wr := @Ev.lenV
abbrev ws := @OpsAt.sk
abbrev wt := @Run.condT
abbrev wu := @Run.condF
abbrev wv := @OpsAt.sto
abbrev ww := @OpsAt.asg
abbrev wx := @OpsAt.app
abbrev wy := @OpsAt.appL
abbrev wz := @OpsAt.ext
abbrev wA := @Ev.calls
abbrev wB := @Ev.callsB
abbrev wC := @Ev.bs
abbrev wD := @Run.ret
abbrev wE := @Ends.tmpE
end Go.Dat
