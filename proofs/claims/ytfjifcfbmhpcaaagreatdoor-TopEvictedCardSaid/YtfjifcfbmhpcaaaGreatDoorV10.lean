/-
  A part of the proof of TopEvicted.
-/
import Derived.Test.YtfjifcfbmhpcaaaGreatDoorV05
import Derived.Test.YtfjifcfbmhpcaaaGreatDoorV00
set_option linter.defProp false
set_option linter.unusedVariables false
set_option linter.unusedSimpArgs false
namespace Go.Proofs.YtfjifcfbmhpcaaaGreatDoor
open Go
open Go.IntKind renaming i64 → Zk
open _root_.Option renaming some->A0
section
set_option maxRecDepth 100000
namespace Nr
set_option maxHeartbeats 100000000 in
def FA4:=by
 have h:=(yF (yF (yF (yF (yF (λc1 l R=>call_n Tryz.func220 (.sk 1 (.draw (od [0,3,4,3,3,1,7,1,65416,0,9,1]) .nil)) [.pointer c1] l R)
 (λc1 l R=>call_n Tryz.func221 .nil [.pointer c1] l R))
 (yF (λa b c R=>call_n Tryz.func222 .nil [a,.int Zk b] c R)
 (yF (λa b c d R=>call_n Tryz.func223 (.sk 1 (.draw (od [0,13,14,3,13,1,17,4]) .nil)) [.pointer a,.pointer (A0 b),.pointer (A0 c)] d R)
 (λa b c d R=>call_n Tryz.func224 (.draw (od [0,7,32647,0]) .nil) [.pointer a,.pointer (A0 b),.pointer (A0 c)] d R))))
 (yF (yF (λa b c d R=>call_n Tryz.func225 .nil [.pointer a,.string b,.int Zk c] d R)
 (yF (λa b c R=>call_n Tryz.func226 .nil [.pointer a,.int Zk b] c R)
 (λa b c d e f R=>call_n Tryz.func227 (.sk 5 (.draw (od [0,6,16262,0,7,1]) .nil)) [.slice a b c,.int Zk d,.int Zk e] f R)))
 (yF (λa b c R=>call_n Tryz.func228 .nil [.pointer a,.int Zk b] c R)
 (yF (λa b R=>call_n Tryz.func237 .nil [a] b R)
 (λa b c R=>call_n Tryz.func239 (.sk 1 (.step (.loop [] (rg [6,4,3,1,10,4]) .nil) .nil .nil)) [a,.pointer (A0 b)] c R)))))
 (yF (yF (yF (λa b c d e f g R=>call_n Tryz.func241 (.sk 3 (.step (.loop [(5,tl),(11,ti)] (rg [12,3,7,1,15,3,4,1,18,4,5,1,22,1,11,1]) .nil) .nil .nil)) [.slice a b c,.slice d e f] g R)
 (λa b c d R=>call_n Tryz.func244 .nil [.slice a b c] d R))
 (yF (λa b c d R=>call_n Tryz.func245 (.sk 1 (.draw (od [0,2,3,1,9,1,2,1,4,5,156554,0,425867,0,1048460,0]) .nil)) [.pointer a,.pointer (A0 b),.pointer (A0 c)] d R)
 (yF (λa b c d R=>call_n Tryz.func246 .nil [.slice a b c] d R)
 (λa b c d R=>call_n Tryz.func247 (.sk 1 (.draw (od [0,2,3,1,9,1,2,1,4,5,156554,0,425867,0,1048460,0]) .nil)) [.pointer a,.pointer (A0 b),.pointer (A0 c)] d R))))
 (yF (yF (λa b c d R=>call_n Tryz.func248 (.sk 6 (.step (.loop [(6,ti),(28,ti)] (rg [29,3,8,1,32,6,6,1,38,1,28,1]) .nil) .nil .nil)) [.slice a b c] d R)
 (yF (λcap1 cap2 w R=>call_n Tryz.func249 .nil [.pointer (A0 cap1),.pointer (A0 cap2)] w R)
 (λcap1 cap2 w R=>call_n Tryz.func250 .nil [.pointer (A0 cap1),.pointer (A0 cap2)] w R)))
 (yF (λcap1 cap2 w R=>call_n Tryz.func251 .nil [.pointer (A0 cap1),.pointer (A0 cap2)] w R)
 (yF (λcap1 cap2 w R=>call_n Tryz.func252 .nil [.pointer (A0 cap1),.pointer (A0 cap2)] w R)
 (λa b R=>call_n Tryz.func258 .nil [.int Zk a] b R))))))
 (yF (yF (yF (yF (λa b c R=>call_n Tryz.func264 (.sk 1 (.step (.loop [(0,ts)] (rg [5,10,0,1]) .nil) .nil .nil)) [.string a,.pointer b] c R)
 (λa b c R=>call_n Tryz.func265 (.sk 1 (.step (.loop [(0,ts)] (rg [5,16,0,1]) .nil) .nil .nil)) [.string a,.pointer b] c R))
 (yF (λa b c R=>call_n Tryz.func268 .nil [.pointer a,.int Zk b] c R)
 (yF (λa b c d e f g h i R=>call_n Tryz.func269 (.sk 3 (.draw (od [0,3,4,3,8,3,12,3,16,1,18,1,3,1,7,1,11,1,15,1,17,1,134217619,0,20,1]) .nil)) [.pointer a,.agg #[.int Zk b,.string c,.string d,.int Zk e,.int Zk f],.int Zk g,.string h] i R)
 (λa b c R=>call_n Tryz.func270 .nil [a,.int Zk b] c R))))
 (yF (yF (λa b c R=>call_n Tryz.func271 .nil [a,b] c R)
 (yF (λa b c d R=>call_n Tryz.func272 (.sk 5 (.draw (od [0,3,4,4,9,3,13,3,3,1,8,1,17,1,12,1,16,1,18,1]) .nil)) [.pointer a,.int Zk b,.int Zk c] d R)
 (λa b R=>call_n Tryz.func273 .nil [.pointer a] b R)))
 (yF (λa b c d R=>call_n Tryz.func274 .nil [.pointer a,.int Zk b,.int Zk c] d R)
 (yF (λa b c d e f g h i R=>call_n Tryz.func275 (.sk 1 (.join 2 [] (rg [12,16]) .nil (.sk 1 (.join 1 [] (rg [33,8]) (.step (.draw (od [0,3,4,2,3,1,12678,0,7,2,130953,0]) .nil) .nil .nil) (.draw2 (od [0,3,5,3,10,5,3,2,8,1,123017,0,8126479,0,16769168,0,33554321,0,18,4,805306262,0,23,1]) (.draw (od [0,7,32647,0]) (.sk 1 (.join 1 [] (rg [73,7]) .nil .nil)))))))) [.pointer a,.pointer b,.agg #[.int Zk c,.string d,.string e,.int Zk f,.int Zk g],.string h] i R)
 (λa R=>call_n Tryz.func276 .nil [] a R)))))
 (yF (yF (yF (λa b c d R=>call_n Tryz.func277 (.sk 2 (.step (.loop [(7,ti)] (rg [12,3,8,1,15,8,9,1,23,2,10,1,25,10,9,1,35,10,7,1]) (.step (.sk 5 (.join 2 [(9,ti)] (rg [25,10,9,1]) .nil .nil)) .nil .nil)) .nil .nil)) [a,.int Zk b,.int Zk c] d R)
 (λa b c d e f g h i R=>call_n Tryz.func278 .nil [.agg #[.int Zk a,.int Zk b,.int Zk c,.int Zk d,.slice e f g],.string h] i R))
 (yF (λa b c d e f g h i j k R=>call_n Tryz.func279 .nil [.agg #[.string a,.int Zk b,.int Zk c,.slice d e f,.slice g h i],.string j] k R)
 (yF (λa b c R=>call_n Tryz.func280 .nil [.pointer a,.int Zk b] c R)
 (λa b c R=>call_n Tryz.func281 (.step (.loop [(1,ti)] (rg [5,3,4,1,8,15,1,1]) .nil) .nil .nil) [a,.int Zk b] c R))))
 (yF (yF (λa b R=>call_n Tryz.func282 .nil [.int Zk a] b R)
 (yF (λa b c d e R=>call_n Tryz.func283 (.sk 2 (.step (.loop [(8,ti)] (rg [9,2,5,1,11,7,4,1,18,1,8,1]) .nil) .nil .nil)) [.slice a b c,d] e R)
 (λa b c d e f g R=>call_n Tryz.func284 .nil [.agg #[.int Zk a,.string b,.string c,.int Zk d,.string e],.pointer (A0 f)] g R)))
 (yF (λa b c d e f g h i R=>call_n Tryz.func290 (.sk 1 (.draw (od [0,1,2,4,1,1,6,3]) (.step (.sk 1 (.step (.draw (od [0,4,5,3,4,1,49544,0,9,2,514955,0,12,2,4194190,0]) .nil) (.draw (od [0,14,15,3,14,1,18,4]) (.step .nil (.sk 1 (.step (.sk 1 (.draw (od [0,4,6,1,4,2,7,1,65416,0,9,1]) .nil)) .nil .nil)) .nil)) .nil)) .nil .nil))) [.pointer a,.pointer b,.agg #[.int Zk c,.string d,.string e,.int Zk f,.int Zk g],.int Zk h] i R)
 (yF (λa b R=>call_n Tryz.func291 (.sk 1 (.draw (od [0,4,5,4,4,1,9,2,524171,0,12,1]) .nil)) [.pointer a] b R)
 (λa b c d e f g R=>call_n Tryz.func292 (.sk 3 (.draw (od [0,1,2,1,1,1,1923,0,3972,0]) .nil)) [.slice a b c,.slice d e f] g R)))))))
 simp -implicitDefEqProofs (maxSteps:=100000000) only[nlB,fl_seq,fl_reg,fl_cond,fl_block,fl_loop,fl_exit,fl_ret,fl_skip,List.cons_append,List.nil_append,qf4,AE.sk,ra,rg,ro,od,ti,tb,ts,tp,tl,tm,tv,Nat.reduceAdd,Nat.reduceMod,Nat.reduceDiv,Nat.reduceBEq,Tryz.f220,Tryz.f221,Tryz.f222,Tryz.f223,Tryz.f224,Tryz.f225,Tryz.f226,Tryz.f227,Tryz.f228,Tryz.f237,Tryz.f239,Tryz.f241,Tryz.f244,Tryz.f245,Tryz.f246,Tryz.f247,Tryz.f248,Tryz.f249,Tryz.f250,Tryz.f251,Tryz.f252,Tryz.f258,Tryz.f264,Tryz.f265,Tryz.f268,Tryz.f269,Tryz.f270,Tryz.f271,Tryz.f272,Tryz.f273,Tryz.f274,Tryz.f275,Tryz.f276,Tryz.f277,Tryz.f278,Tryz.f279,Tryz.f280,Tryz.f281,Tryz.f282,Tryz.f283,Tryz.f284,Tryz.f290,Tryz.f291,Tryz.f292]at h;simp -implicitDefEqProofs (maxSteps:=100000000) only[↓n_nil0,↓n_nil1,↓n_skip0,↓n_skip1,↓n_reg0,↓n_reg1,↓n_dr,↓n_dr2,↓n_cond0,↓n_cond1,↓n_block0,↓n_block1,↓n_loop,↓n_exit0,↓n_exit1,↓n_ret0,↓n_ret1,↓n_j1,↓n_j2,↓q_t0,↓q_t1,↓q_t2,↓q_b0,↓q_b1,↓q_b2,↓q_f0,↓q_f1,↓s_0,↓s_1,↓oe_0,↓oe_1,↓oe_2,↓de_0,↓de_1,↓se_1,↓s2_1,↓ne_0,↓ne_1,↓ne_2,↓ne_3,↓nt_0,↓nt_1,↓nt_2,↓nt_3,↓nt_4,↓rb_2,↓g_0,↓g_1,↓e_c,↓e_put,↓e_puts,↓v_c,↓v_t,↓v_g,↓v_f,↓nil_s,↓k_ptr,↓k_fun,↓k_ifc,↓bif_t,↓bif_f,↓isn_s,↓isn_n,↓un_not,↓un_neg,↓un_xor,↓mf,↓b_0,↓b_1,↓d_0,↓d_1,↓al_0,↓al_1,↓wl_a,↓wp_a,↓en_1,↓x1_0,↓x2_0,↓x2_1,↓x3_0,↓x3_1,↓x3_2,↓x4_0,↓x4_1,↓x4_2,↓x4_3,↓t_0,↓t_1,↓opR,↓opX,↓opW,↓opP,↓qi7,↓qb9,↓qe8,↓q09,↓qsa,↓ixK,↓q3c,↓slK,↓qc7,↓qj3,↓q86,↓qvc,↓qa2.asT',↓qwa,↓q66,↓asR,↓asT,↓as0,↓exR,↓qta,↓exT,↓exL,↓ex0,↓alT,↓alL,↓al0,↓ld0,↓ldL,↓st0,↓stL,↓exO,a_0,a_1,decide_true,decide_false,cl_a,cl_i,cl_b,cl_s,cl_p,cl_l,cl_m,cl_f,gs,kd,Two.kd,qn4,tup,qqc,qo5,q72,tys,q49,q68,q96,List.cons_append,List.nil_append,List.append_nil,Option.getD,Nat.reduceAdd,undef,Int.cast_ofNat_Int,rep,↓T0,↓T1,↓T2,↓T3,↓T4,↓T5,↓T6,↓T7,↓T8,↓T9,↓T10,↓T11,↓T12]at h;exact h
end Nr
def F220_of{c1 h R}:=Nr.FA4.1.1.1.1.1 c1 h R
def F221_of{c1 h R}:=Nr.FA4.1.1.1.1.2 c1 h R
def F222_of{a b c R}:=Nr.FA4.1.1.1.2.1 a b c R
def F223_of{a b c d R}:=Nr.FA4.1.1.1.2.2.1 a b c d R
def F224_of{a b c d R}:=Nr.FA4.1.1.1.2.2.2 a b c d R
def F225_of{a b c d R}:=Nr.FA4.1.1.2.1.1 a b c d R
def F226_of{a b c R}:=Nr.FA4.1.1.2.1.2.1 a b c R
def F227_of{a b c d e f R}:=Nr.FA4.1.1.2.1.2.2 a b c d e f R
def F228_of{a b c R}:=Nr.FA4.1.1.2.2.1 a b c R
def F237_of{a b R}:=Nr.FA4.1.1.2.2.2.1 a b R
def F239_of{a b c R}:=Nr.FA4.1.1.2.2.2.2 a b c R
def F241_of{a b c d e f g R}:=Nr.FA4.1.2.1.1.1 a b c d e f g R
def F244_of{a b c d R}:=Nr.FA4.1.2.1.1.2 a b c d R
def F245_of{a b c d R}:=Nr.FA4.1.2.1.2.1 a b c d R
def F246_of{a b c d R}:=Nr.FA4.1.2.1.2.2.1 a b c d R
def F247_of{a b c d R}:=Nr.FA4.1.2.1.2.2.2 a b c d R
def F248_of{a b c d R}:=Nr.FA4.1.2.2.1.1 a b c d R
def F249_of{cap1 cap2 h R}:=Nr.FA4.1.2.2.1.2.1 cap1 cap2 h R
def F250_of{cap1 cap2 h R}:=Nr.FA4.1.2.2.1.2.2 cap1 cap2 h R
def F251_of{cap1 cap2 h R}:=Nr.FA4.1.2.2.2.1 cap1 cap2 h R
def F252_of{cap1 cap2 h R}:=Nr.FA4.1.2.2.2.2.1 cap1 cap2 h R
def F258_of{a b R}:=Nr.FA4.1.2.2.2.2.2 a b R
def F264_of{a b c R}:=Nr.FA4.2.1.1.1.1 a b c R
def F265_of{a b c R}:=Nr.FA4.2.1.1.1.2 a b c R
def F268_of{a b c R}:=Nr.FA4.2.1.1.2.1 a b c R
def F269_of{a b c d e f g h i R}:=Nr.FA4.2.1.1.2.2.1 a b c d e f g h i R
def F270_of{a b c R}:=Nr.FA4.2.1.1.2.2.2 a b c R
def F271_of{a b c R}:=Nr.FA4.2.1.2.1.1 a b c R
def F272_of{a b c d R}:=Nr.FA4.2.1.2.1.2.1 a b c d R
def F273_of{a b R}:=Nr.FA4.2.1.2.1.2.2 a b R
def F274_of{a b c d R}:=Nr.FA4.2.1.2.2.1 a b c d R
def F275_of{a b c d e f g h i R}:=Nr.FA4.2.1.2.2.2.1 a b c d e f g h i R
def F276_of{a R}:=Nr.FA4.2.1.2.2.2.2 a R
def F277_of{a b c d R}:=Nr.FA4.2.2.1.1.1 a b c d R
def F278_of{a b c d e f g h i R}:=Nr.FA4.2.2.1.1.2 a b c d e f g h i R
def F279_of{a b c d e f g h i j k R}:=Nr.FA4.2.2.1.2.1 a b c d e f g h i j k R
def F280_of{a b c R}:=Nr.FA4.2.2.1.2.2.1 a b c R
def F281_of{a b c R}:=Nr.FA4.2.2.1.2.2.2 a b c R
def F282_of{a b R}:=Nr.FA4.2.2.2.1.1 a b R
def F283_of{a b c d e R}:=Nr.FA4.2.2.2.1.2.1 a b c d e R
def F284_of{a b c d e f g R}:=Nr.FA4.2.2.2.1.2.2 a b c d e f g R
def F290_of{a b c d e f g h i R}:=Nr.FA4.2.2.2.2.1 a b c d e f g h i R
def F291_of{a b R}:=Nr.FA4.2.2.2.2.2.1 a b R
def F292_of{a b c d e f g R}:=Nr.FA4.2.2.2.2.2.2 a b c d e f g R
end
end Go.Proofs.YtfjifcfbmhpcaaaGreatDoor
