/- Texts laid one behind the other: K3, K4, K5, K6, K7, K8, K9, KA, KB, KC, KD, KE, SS, G2, T4, G6, U8, LPlays.
   No condition. -/
import Derived.KernelRfl
import Derived.Test.YtcaccnneblghgaaGreatQ76
set_option linter.unusedVariables false
set_option linter.unusedSimpArgs false
namespace Go.Proofs.YtcaccnneblghgaaGreat
namespace V
set_option maxRecDepth 1000000
def kO9:Obj:=.cells ⟨[.slice (some ⟨3287,0,(some 1)⟩) 1 1,s0,s0,s0]⟩ 34
def aAW:Obj:=.cells ⟨[.int .u8 2,.int .u64 0,.int .u64 8589934592,.int .u64 0,.int .u64 0,s0,j0,j0,.string ⟨⟨[]⟩⟩,.int .u8 5,.int .u64 0,.int .u64 0,.int .u64 0,.int .u64 0,.slice (some ⟨4546,0,(some 1)⟩) 1 1,.int .i64 1,jm,.string ⟨⟨[]⟩⟩]⟩ 86
def aUP:List Value:=[.agg ⟨[.slice (some ⟨8,0,(some 1)⟩) 1 1,s0,.slice (some ⟨1915,0,(some 7)⟩) 1 1]⟩,j0]
def aUQ:Value:=.tuple ⟨[.slice (some ⟨4581,0,(some 9)⟩) 2 2,j0]⟩
def aBP:Cp where
 f:=aJ2
 args:=aUP
 h:=aU (aU (aU (aD (aD (aN (aD (aD (aN (aN (aD (aS kO2))))))))) (aU (aU (aN (aN (aD (aD (aN (aN (aS oH))))))) (aN (aD (aD (aN (aN (aD (aN .e)))))))) (aD (aD (aD (aN (aD (aD (aS kO0))))))))) (aU (aU (aD (aD (aD (aD (aD (aS eN)))))) (aD (aN (aD (aD (aN (aN (aD (aS kO9))))))))) (aD (aD (aD (aD (aN (aD (aN (aN (aS oH))))))))))) (aU (aU (kTn .e kO2 (aD (aN (aN (aD (aN (aD (aS eN)))))))) (aN (aN (aN (aN (aD (aD (aN (aN (aS kO7)))))))))) (aN (aD (aN (aD (aN (aD (aN (aD (aS kO3))))))))))
 nx:=3301
 v:=aUQ
 h':=aU (aU (aU (aD (aD (aN (aD (aD (aN (aN (aD (aS kO2))))))))) (aU (aN (aN (aN (aD (aD (aN (aN (aS oH)))))))) (aD (aD (aD (aN (aD (aD (aS kO0))))))))) (aU (aU (aD (aD (aD (aD (aD (aS eN)))))) (aD (aN (aD (aD (aN (aN (aD (aS kO9))))))))) (aU (aN (aD (aD (aD (aD (aN (aN (aN (aS aAW))))))))) (aD (aD (aD (aN (aD (aN (aN (aS oH))))))))))) (aU (aU (kTn .e kO2 (aD (aN (aN (aD (aN (aD (aS eN)))))))) (aN (aN (aN (aN (aD (aD (aN (aN (aS kO7)))))))))) (aN (aU (aN (aN (aD (aD (aD (aN (aN (aN (aS eN))))))))) (aN (aD (aN (aD (aN (aD (aS kO3))))))))))
 nx':=4609
theorem p8:wA Tryz.prog aBP:=xZ mY (l:=[wI,aAh]) (bV lC (bV oL mS)) (k:=200) fun ro=>by kernel_rfl
end V
end Go.Proofs.YtcaccnneblghgaaGreat
namespace Go.Proofs.YtcaccnneblghgaaGreat
namespace V
set_option maxRecDepth 1000000
def aB6:Obj:=.cells ⟨[.int .u8 2,.int .u64 0,.int .u64 8589934592,.int .u64 0,.int .u64 0,s0,j0,j0,.string ⟨⟨[]⟩⟩,.int .u8 2,.int .u64 0,.int .u64 8589934592,.int .u64 0,.int .u64 0,s0,j0,j0,.string ⟨⟨[]⟩⟩,.int .u8 5,.int .u64 0,.int .u64 0,.int .u64 0,.int .u64 0,.slice (some ⟨5182,0,(some 1)⟩) 1 1,j0,jm,.string ⟨⟨[]⟩⟩,.int .u8 3,.int .u64 0,.int .u64 0,.int .u64 0,.int .u64 0,.slice (some ⟨5215,0,(some 1)⟩) 2 2,j0,j0,.string ⟨⟨[]⟩⟩]⟩ 86
def aB7:Obj:=.cells ⟨[j0,.int .i64 2]⟩ 3
def lV:Obj:=.cells ⟨[.int .i64 1]⟩ 3
def aUR:List Value:=[.slice (some ⟨4581,0,(some 9)⟩) 2 2,.int .i64 9]
def aUS:Value:=.tuple ⟨[.slice (some ⟨5247,0,(some 9)⟩) 4 4,j0]⟩
def aCb:Cp where
 f:=aJ1
 args:=aUR
 h:=aU (aU (aU (aD (aD (aN (aD (aD (aN (aN (aD (aS kO2))))))))) (aU (aN (aN (aN (aD (aD (aN (aN (aS oH)))))))) (aD (aD (aD (aN (aD (aD (aS kO0))))))))) (aU (aU (aD (aD (aD (aD (aD (aS eN)))))) (aD (aN (aD (aD (aN (aN (aD (aS kO9))))))))) (aU (aN (aD (aD (aD (aD (aN (aN (aN (aS aAW))))))))) (aD (aD (aD (aN (aD (aN (aN (aS oH))))))))))) (aU (aU (kTn .e kO2 (aD (aN (aN (aD (aN (aD (aS eN)))))))) (aN (aN (aN (aN (aD (aD (aN (aN (aS kO7)))))))))) (aN (aU (aN (aN (aD (aD (aD (aN (aN (aN (aS eN))))))))) (aN (aD (aN (aD (aN (aD (aS kO3))))))))))
 nx:=4617
 v:=aUS
 h':=aU (aU (aU (aU (aN (aU (aN (aD (aN (aN (aD (aN (aS aB6))))))) (aD (aN (aN (aN (aD (aN (aS aB7))))))))) (aD (aN (aD (aD (aN (aN (aD (aS kO2))))))))) (aU (aN (aN (aN (aD (aD (aN (aN (aS oH)))))))) (aD (aD (aD (aN (aD (aD (aS kO0))))))))) (aU (aU (aD (aD (aD (aD (aD (aS eN)))))) (aD (aN (aD (aD (aN (aN (aD (aS kO9))))))))) (aU (aN (aD (aD (aD (aD (aN (aN (aN (aS aAW))))))))) (aD (aD (aD (aN (aD (aN (aN (aS oH))))))))))) (aU (aU (kTn .e kO2 (aD (aN (aN (aD (aN (aD (aS eN)))))))) (aN (aN (aN (aN (aD (aD (aN (aN (aS kO7)))))))))) (aU (aU (aN (aN (aD (aD (aD (aN (aN (aN (aS eN))))))))) (aN (aD (aN (aD (aN (aD (aS kO3)))))))) (aD (aD (aD (aN (aN (aN (aN (aD (aN (aS lV))))))))))))
 nx':=5824
theorem rK:wA Tryz.prog aCb:=xZ mY (l:=[wI,aAh,aBP]) (bV lC (bV oL (bV p8 mS))) (k:=200) fun ro=>by kernel_rfl
end V
end Go.Proofs.YtcaccnneblghgaaGreat
namespace Go.Proofs.YtcaccnneblghgaaGreat
namespace V
set_option maxRecDepth 1000000
def aTm (t:List Value):List Value:=b0::b0::b0::b0::b0::b0::b0::b0::b0::b0::b0::b0::b0::b0::b0::b0::b0::b0::b0::b0::b0::b0::b0::b0::b0::b0::b0::b0::b0::b0::b0::b0::b0::b0::b0::b0::b0::b0::b0::b0::b0::b0::b0::b0::b0::b0::b0::b0::b0::b0::b0::b0::b0::b0::b0::b0::b0::b0::b0::b0::b0::b0::b0::b0::b0::b0::b0::b0::b0::b0::b0::b0::b0::b0::b0::b0::b0::b0::b0::b0::b0::b0::b0::b0::b0::b0::b0::b0::b0::b0::b0::b0::b0::b0::b0::b0::b0::b0::b0::b0::b0::b0::b0::b0::b0::b0::b0::b0::b0::b0::b0::b0::b0::b0::b0::b0::b0::b0::b0::b0::b0::b0::b0::b0::b0::b0::b0::b0::b0::b0::b0::b0::b0::b0::b0::b0::b0::b0::b0::b0::b0::b0::b0::b0::b0::b0::b0::b0::b0::b0::b0::b0::b0::b0::b0::b0::b0::b0::b0::b0::b0::b0::b0::b0::b0::b0::b0::b0::b0::b0::b0::b0::b0::b0::b0::b0::b0::b0::b0::b0::b0::b0::b0::b0::b0::b0::b0::b0::b0::b0::b0::b0::b0::b0::b0::b0::b0::b0::b0::b0::b0::b0::b0::b0::b0::b0::b0::b0::b0::b0::b0::b0::b0::b0::b0::b0::b0::b0::b0::b0::b0::b0::b0::b0::b0::b0::b0::b0::b0::b0::b0::b0::b0::b0::b0::b0::b0::b0::b0::b0::b0::b0::b0::b0::b0::b0::b0::b0::b0::b0::b0::b0::b0::b0::b0::b0::t
def iI:Obj:=.cells ⟨[.slice (some ⟨5247,0,(some 9)⟩) 4 4]⟩ 79
def aLE:Obj:=.cells ⟨[.slice (some ⟨3287,0,(some 1)⟩) 1 1,.slice (some ⟨5849,0,(some 1)⟩) 1 1,.slice (some ⟨5862,0,(some 1)⟩) 1 1,s0]⟩ 34
def oC:Obj:=.cells ⟨[.string ⟨⟨[65]⟩⟩]⟩ 9
def aFg:Obj:=.cells ⟨(aTm [j0,s0,s0,s0])⟩ 65
def gQ:Obj:=.cells ⟨[jm]⟩ 3
def aQF:Obj:=.cells ⟨[.int .u64 0,.int .u64 8589934592,.int .u64 0,.int .u64 0,.int .i64 1,.int .i64 1,j0,.bool true,.slice (some ⟨7491,0,(some 1)⟩) 1 1,.int .u64 0,.int .u64 8589934592,.int .u64 0,.int .u64 0,.int .i64 1,.int .i64 1,j0,.bool true,.slice (some ⟨7219,0,(some 1)⟩) 1 1]⟩ 192
def aUT:Value:=.tuple ⟨[.agg ⟨[.slice (some ⟨7717,0,(some 1)⟩) 1 1,.slice (some ⟨6903,0,(some 9)⟩) 2 2]⟩,j0]⟩
def aNf:Cp where
 f:=aGg
 args:=[.slice (some ⟨5963,0,(some 1)⟩) 1 1]
 h:=aU (aU (aU (aU (aN (aU (aN (aD (aN (aN (aD (aN (aS aB6))))))) (aD (aN (aN (aN (aD (aN (aS aB7))))))))) (aD (aN (aD (aD (aN (aN (aD (aS kO2))))))))) (aU (aN (aN (aN (aD (aD (aN (aN (aS oH)))))))) (aU (aU (aD (aU (aD (aD (aD (aN (aS iI))))) (aN (aD (aD (aN (aS iI))))))) (aN (aN (aD (aD (aD (aN (aS eN)))))))) (aD (aD (aN (aD (aD (aS kO0))))))))) (aU (aU (aD (aD (aD (aD (aD (aS eN)))))) (aU (aU (aD (aU (aD (aD (aD (aN (aS iI))))) (aN (aD (aD (aN (aS iI))))))) (aN (aN (aD (aD (aD (aN (aS eN)))))))) (aU (aD (aD (aN (aU (aD (aS aLE)) (aD (aN (aS oC))))))) (aN (aN (aD (aD (aD (aN (aS aFg)))))))))) (aU (aU (aD (aD (aD (aD (aN (aN (aN (aS aAW)))))))) (aN (aD (aD (aN (aD (aD (aN (aS oC))))))))) (aD (aD (aD (aU (aD (aN (aN (aS oH)))) (aN (aD (aD (aN (aS oH)))))))))))) (aU (aU (kTn .e kO2 (aD (aN (aN (aD (aN (aD (aS eN)))))))) (aN (aN (aN (aN (aD (aD (aN (aN (aS kO7)))))))))) (aU (aU (aN (aU (aD (aD (aD (aN (aN (aN (aS eN))))))) (aD (aD (aN (aD (aD (aN (aS gQ))))))))) (aN (aD (aN (aD (aN (aD (aS kO3)))))))) (aU (aN (aD (aD (aD (aN (aD (aD (aN (aS gQ))))))))) (aD (aD (aN (aN (aN (aN (aD (aN (aS lV))))))))))))
 nx:=5974
 v:=aUT
 h':=aU (aU (aU (aU (aN (aU (aN (aD (aN (aN (aD (aN (aS aB6))))))) (aD (aN (aN (aN (aD (aN (aS aB7))))))))) (aD (aU (aD (aD (aN (aN (aD (aS kO2)))))) (aD (aD (aN (aD (aN (aD (aS aQF)))))))))) (aU (aU (aN (aU (aD (aD (aN (aN (aS oH))))) (aN (aD (aN (aD (aD (aS lV)))))))) (aD (aN (aN (aN (aN (aD (aD (aS lV))))))))) (aU (aU (aD (aU (aD (aD (aD (aN (aS iI))))) (aN (aD (aD (aN (aS iI))))))) (aN (aN (aD (aD (aD (aN (aS eN)))))))) (aD (aD (aN (aD (aD (aS kO0))))))))) (aU (aU (aD (aD (aD (aD (aD (aS eN)))))) (aU (aU (aD (aU (aD (aD (aD (aN (aS iI))))) (aN (aD (aD (aN (aS iI))))))) (aN (aN (aD (aD (aD (aN (aS eN)))))))) (aU (aD (aD (aN (aU (aD (aS aLE)) (aD (aN (aS oC))))))) (aN (aN (aD (aD (aD (aN (aS aFg)))))))))) (aU (aU (aD (aU (aN (aN (aD (aD (aD (aS eN)))))) (aD (aD (aN (aN (aN (aS aAW)))))))) (aN (aD (aD (aN (aD (aD (aN (aS oC))))))))) (aD (aD (aD (aU (aD (aN (aN (aS oH)))) (aN (aD (aD (aN (aS oH)))))))))))) (aU (aU (kTn .e kO2 (aD (aN (aN (aD (aN (aD (aS eN)))))))) (aN (aN (aN (aN (aD (aD (aN (aN (aS kO7)))))))))) (aU (aU (aN (aU (aD (aD (aD (aN (aN (aN (aS eN))))))) (aD (aD (aN (aD (aD (aN (aS gQ))))))))) (aN (aD (aN (aD (aN (aD (aS kO3)))))))) (aU (aN (aD (aD (aD (aN (aD (aD (aN (aS gQ))))))))) (aD (aD (aN (aN (aN (aN (aD (aN (aS lV))))))))))))
 nx':=7804
theorem aGX:wA Tryz.prog aNf:=xZ mY (l:=[wI,aAh,aBP,aCb]) (bV lC (bV oL (bV p8 (bV rK mS)))) (k:=200) fun ro=>by kernel_rfl
end V
end Go.Proofs.YtcaccnneblghgaaGreat
namespace Go.Proofs.YtcaccnneblghgaaGreat
namespace V
set_option maxRecDepth 1000000
def aDv (t:List Value):List Value:=b0::b0::b0::b0::b0::b0::b0::b0::b0::b0::b0::b0::b0::b0::b0::b0::b0::b0::b0::b0::b0::b0::b0::b0::b0::b0::b0::b0::b0::b0::b0::b0::b0::b0::b0::b0::b0::b0::b0::b0::b0::b0::b0::b0::b0::b0::b0::b0::b0::b0::b0::b0::b0::b0::b0::b0::b0::b0::b0::b0::b0::b0::b0::b0::b0::b0::b0::b0::b0::b0::b0::b0::b0::b0::b0::b0::b0::b0::b0::b0::b0::b0::b0::b0::b0::b0::b0::b0::b0::b0::b0::b0::b0::b0::b0::b0::b0::b1::b0::b0::b0::b0::b0::b0::b0::b0::b0::b0::b0::b0::b0::b0::b0::b0::b0::b0::b0::b0::b0::b0::b0::b0::b0::b0::b0::b0::b0::b0::b0::b0::b0::b0::b0::b0::b0::b0::b0::b0::b0::b0::b0::b0::b0::b0::b0::b0::b0::b0::b0::b0::b0::b0::b0::b0::b0::b0::b0::b0::b0::b0::b0::b0::b0::b0::b0::b0::b0::b0::b0::b0::b0::b0::b0::b0::b0::b0::b0::b0::b0::b0::b0::b0::b0::b0::b0::b0::b0::b0::b0::b0::b0::b0::b0::b0::b0::b0::b0::b0::b0::b0::b0::b0::b0::b0::b0::b0::b0::b0::b0::b0::b0::b0::b0::b0::b0::b0::b0::b0::b0::b0::b0::b0::b0::b0::b0::b0::b0::b0::b0::b0::b0::b0::b0::b0::b0::b0::b0::b0::b0::b0::b0::b0::b0::b0::b0::b0::b0::b0::b0::b0::b0::b0::b0::b0::b0::b0::t
def aR8:Obj:=.cells ⟨[.slice (some ⟨7717,0,(some 1)⟩) 1 1,.slice (some ⟨6903,0,(some 9)⟩) 2 2]⟩ 136
def aFh:Obj:=.cells ⟨[jm,s0,.int .i64 2,s0]⟩ 202
def aOf:Obj:=.cells ⟨[jm,s0,.int .i64 1,s0]⟩ 202
def aSm:Obj:=.cells ⟨[.slice (some ⟨42591,0,(some 2)⟩) 2 2]⟩ 200
def aSn:Obj:=.cells ⟨[.slice (some ⟨40887,0,(some 2)⟩) 2 2]⟩ 200
def aSo:Obj:=.cells ⟨[s0,s0,.slice (some ⟨40384,0,(some 1)⟩) 1 1,.slice (some ⟨40909,0,(some 1)⟩) 1 1,.slice (some ⟨40670,0,(some 1)⟩) 1 1,s0,.slice (some ⟨41071,0,(some 1)⟩) 1 1,.slice (some ⟨41768,0,(some 1)⟩) 1 1,.slice (some ⟨41593,0,(some 1)⟩) 1 1,s0,.slice (some ⟨41930,0,(some 1)⟩) 1 1,.slice (some ⟨42613,0,(some 1)⟩) 1 1]⟩ 160
def aSp:Obj:=.cells ⟨[.slice (some ⟨41746,0,(some 2)⟩) 2 2]⟩ 200
def aUU:List Value:=[.agg ⟨[.slice (some ⟨7717,0,(some 1)⟩) 1 1,.slice (some ⟨6903,0,(some 9)⟩) 2 2]⟩]
def aUV:Value:=.tuple ⟨[.agg ⟨(aDv [.int .i64 2,s0,.slice (some ⟨41728,0,(some 4)⟩) 3 3])⟩,j0]⟩
def aPe:Cp where
 f:=aGh
 args:=aUU
 h:=aU (aU (aU (aU (aN (aU (aN (aD (aN (aU (aD (aN (aS aB6))) (aD (aD (aS aR8))))))) (aD (aN (aN (aN (aD (aN (aS aB7))))))))) (aD (aU (aD (aD (aN (aN (aD (aS kO2)))))) (aD (aD (aN (aD (aN (aD (aS aQF)))))))))) (aU (aU (aN (aU (aD (aD (aN (aN (aS oH))))) (aN (aD (aN (aD (aD (aS lV)))))))) (aD (aN (aN (aN (aN (aD (aD (aS lV))))))))) (aU (aU (aD (aU (aD (aD (aD (aN (aS iI))))) (aN (aD (aD (aN (aS iI))))))) (aN (aN (aD (aD (aD (aN (aS eN)))))))) (aD (aD (aN (aD (aD (aS kO0))))))))) (aU (aU (aD (aD (aD (aD (aD (aS eN)))))) (aU (aU (aD (aU (aD (aD (aD (aN (aS iI))))) (aN (aD (aD (aN (aS iI))))))) (aN (aN (aD (aD (aD (aN (aS eN)))))))) (aU (aD (aD (aN (aU (aD (aS aLE)) (aD (aN (aS oC))))))) (aN (aN (aD (aD (aD (aN (aS aFg)))))))))) (aU (aU (aD (aU (aN (aN (aD (aD (aD (aS eN)))))) (aD (aD (aN (aN (aN (aS aAW)))))))) (aN (aD (aD (aN (aD (aD (aN (aS oC))))))))) (aD (aD (aD (aU (aD (aN (aN (aS oH)))) (aN (aD (aD (aN (aS oH)))))))))))) (aU (aU (kTn .e kO2 (aD (aN (aN (aD (aN (aD (aS eN)))))))) (aN (aN (aN (aN (aD (aD (aN (aN (aS kO7)))))))))) (aU (aU (aN (aU (aD (aD (aD (aN (aN (aN (aS eN))))))) (aD (aD (aN (aD (aD (aN (aS gQ))))))))) (aN (aD (aN (aD (aN (aD (aS kO3)))))))) (aU (aN (aD (aD (aD (aN (aD (aD (aN (aS gQ))))))))) (aD (aD (aN (aN (aN (aN (aD (aN (aS lV))))))))))))
 nx:=7814
 v:=aUV
 h':=aU (aU (aU (aU (aU (aU (aN (aD (aN (aU (aD (aN (aS aB6))) (aD (aD (aS aR8))))))) (aD (aN (aN (aU (aD (aN (aS aB7))) (aD (aN (aN (aD (aN (aS aFh))))))))))) (aD (aD (aN (aN (aN (aN (aN (aN (aD (aN (aS eN)))))))))))) (aD (aU (aD (aD (aN (aN (aD (aS kO2)))))) (aU (aD (aD (aD (aD (aD (aD (aN (aN (aS aOf))))))))) (aD (aN (aD (aN (aD (aS aQF)))))))))) (aU (aU (aN (aU (aD (aD (aN (aN (aS oH))))) (aN (aD (aN (aD (aD (aS lV)))))))) (aD (aN (aN (aN (aN (aD (aD (aS lV))))))))) (aU (aU (aD (aU (aD (aD (aD (aN (aS iI))))) (aN (aD (aD (aN (aS iI))))))) (aN (aN (aD (aD (aD (aN (aS eN)))))))) (aD (aD (aN (aD (aD (aS kO0))))))))) (aU (aU (aD (aD (aD (aD (aD (aS eN)))))) (aU (aU (aD (aU (aD (aD (aD (aN (aS iI))))) (aN (aD (aD (aN (aS iI))))))) (aN (aN (aD (aD (aD (aN (aS eN)))))))) (aU (aD (aD (aN (aU (aD (aS aLE)) (aD (aN (aS oC))))))) (aU (aN (aD (aD (aD (aN (aS aFg)))))) (aN (aN (aD (aN (aN (aN (aD (aN (aS lV))))))))))))) (aU (aU (aD (aU (aN (aN (aD (aD (aD (aS eN)))))) (aD (aD (aN (aN (aN (aS aAW)))))))) (aU (aD (aD (aN (aD (aD (aN (aS oC))))))) (aD (aN (aN (aD (aD (aN (aN (aD (aN (aS aSm)))))))))))) (aU (aN (aD (aD (aD (aD (aD (aD (aD (aN (aN (aS aSn))))))))))) (aD (aD (aU (aD (aN (aN (aS oH)))) (aN (aD (aD (aN (aS oH)))))))))))) (aU (aU (kTn (aN (aN (aU (aN (aD (aD (aN (aN (aN (aD (aN (aS aSo))))))))) (aD (aD (aN (aD (aD (aD (aN (aN (aS gQ)))))))))))) kO2 (aU (aD (aN (aN (aD (aD (aN (aN (aN (aD (aN (aS aSp))))))))))) (aN (aN (aD (aN (aD (aS eN)))))))) (aN (aN (aN (aN (aD (aD (aN (aN (aS kO7)))))))))) (aU (aU (aU (aU (aD (aD (aD (aN (aN (aN (aS eN))))))) (aD (aD (aN (aD (aD (aN (aS gQ)))))))) (aN (aN (aN (aD (aD (aN (aN (aN (aD (aN (aS aFh)))))))))))) (aN (aU (aD (aD (aD (aD (aN (aN (aN (aD (aN (aS eN)))))))))) (aN (aD (aN (aD (aS kO3)))))))) (aU (aN (aD (aD (aD (aN (aD (aD (aN (aS gQ))))))))) (aD (aU (aD (aD (aN (aD (aD (aD (aD (aN (aN (aS eN)))))))))) (aN (aN (aN (aN (aD (aN (aS lV))))))))))))
 nx':=42658
theorem aKe:wA Tryz.prog aPe:=xZ mY (l:=[wI,aAh,aBP,aCb,aNf]) (bV lC (bV oL (bV p8 (bV rK (bV aGX mS))))) (k:=200) fun ro=>by kernel_rfl
end V
end Go.Proofs.YtcaccnneblghgaaGreat
namespace Go.Proofs.YtcaccnneblghgaaGreat
namespace V
set_option maxRecDepth 1000000
def aTj:Obj:=.cells ⟨(aDv [.int .i64 2,s0,.slice (some ⟨41728,0,(some 4)⟩) 3 3])⟩ 63
def zW:Obj:=.cells ⟨[]⟩ 149
def aEa:Obj:=.cells ⟨[jm,s0,.int .i64 1,.slice (some ⟨62911,0,(some 1)⟩) 0 0]⟩ 202
def aEb:Obj:=.cells ⟨[.slice (some ⟨62919,0,(some 2)⟩) 2 2]⟩ 200
def aEc:Obj:=.cells ⟨[.slice (some ⟨63066,0,(some 2)⟩) 2 2]⟩ 200
def aEd:Obj:=.cells ⟨[jm,s0,.int .i64 1,.slice (some ⟨63058,0,(some 1)⟩) 0 0]⟩ 202
def aEe:Obj:=.cells ⟨[.slice (some ⟨62947,0,(some 1)⟩) 0 0,.slice (some ⟨62951,0,(some 1)⟩) 0 0,.slice (some ⟨62965,0,(some 1)⟩) 1 1,.slice (some ⟨62935,0,(some 1)⟩) 1 1,.slice (some ⟨63112,0,(some 1)⟩) 1 1,.slice (some ⟨63098,0,(some 1)⟩) 0 0,.slice (some ⟨63113,0,(some 1)⟩) 1 1,.slice (some ⟨63082,0,(some 1)⟩) 1 1]⟩ 160
def aUW:List Value:=[.agg ⟨(aDv [.int .i64 2,s0,.slice (some ⟨41728,0,(some 4)⟩) 3 3])⟩]
def aUX:Value:=.tuple ⟨[.agg ⟨(aDv [.int .i64 2,.slice (some ⟨62815,0,(some 2)⟩) 0 0,.slice (some ⟨63322,0,(some 4)⟩) 2 2])⟩,j0]⟩
def aS2:Cp where
 f:=aGi
 args:=aUW
 h:=aU (aU (aU (aU (aU (aU (aN (aD (aN (aU (aD (aN (aS aB6))) (aD (aD (aS aR8))))))) (aD (aN (aN (aU (aD (aN (aS aB7))) (aD (aN (aN (aD (aN (aS aFh))))))))))) (aD (aD (aN (aN (aN (aN (aN (aN (aD (aN (aS eN)))))))))))) (aD (aU (aD (aD (aN (aN (aD (aS kO2)))))) (aU (aD (aD (aD (aD (aD (aD (aN (aN (aS aOf))))))))) (aD (aN (aD (aN (aD (aS aQF)))))))))) (aU (aU (aN (aU (aD (aD (aN (aN (aS oH))))) (aN (aD (aN (aD (aD (aS lV)))))))) (aD (aN (aN (aN (aN (aD (aD (aS lV))))))))) (aU (aU (aD (aU (aD (aD (aD (aN (aS iI))))) (aN (aD (aD (aN (aS iI))))))) (aN (aN (aD (aD (aD (aN (aS eN)))))))) (aD (aD (aN (aD (aD (aS kO0))))))))) (aU (aU (aD (aD (aD (aD (aD (aS eN)))))) (aU (aU (aD (aU (aD (aD (aD (aN (aS iI))))) (aN (aD (aD (aN (aS iI))))))) (aN (aN (aD (aD (aD (aN (aS eN)))))))) (aU (aD (aD (aN (aU (aD (aS aLE)) (aD (aN (aS oC))))))) (aU (aN (aD (aD (aD (aN (aS aFg)))))) (aN (aN (aD (aN (aN (aN (aD (aN (aS lV))))))))))))) (aU (aU (aD (aU (aU (aN (aD (aD (aD (aS eN))))) (aN (aD (aD (aN (aN (aD (aN (aS aTj))))))))) (aD (aD (aN (aN (aN (aS aAW)))))))) (aU (aD (aD (aN (aD (aD (aN (aS oC))))))) (aD (aN (aN (aD (aD (aN (aN (aD (aN (aS aSm)))))))))))) (aU (aN (aD (aD (aD (aD (aD (aD (aD (aN (aN (aS aSn))))))))))) (aD (aD (aU (aD (aN (aN (aS oH)))) (aN (aD (aD (aN (aS oH)))))))))))) (aU (aU (kTn (aN (aN (aU (aN (aD (aD (aN (aN (aN (aD (aN (aS aSo))))))))) (aD (aD (aN (aD (aD (aD (aN (aN (aS gQ)))))))))))) kO2 (aU (aD (aN (aN (aD (aD (aN (aN (aN (aD (aN (aS aSp))))))))))) (aN (aN (aD (aN (aD (aS eN)))))))) (aN (aN (aN (aN (aD (aD (aN (aN (aS kO7)))))))))) (aU (aU (aU (aU (aD (aD (aD (aN (aN (aN (aS eN))))))) (aD (aD (aN (aD (aD (aN (aS gQ)))))))) (aN (aN (aN (aD (aD (aN (aN (aN (aD (aN (aS aFh)))))))))))) (aN (aU (aD (aD (aD (aD (aN (aN (aN (aD (aN (aS eN)))))))))) (aN (aD (aN (aD (aS kO3)))))))) (aU (aN (aD (aD (aD (aN (aD (aD (aN (aS gQ))))))))) (aD (aU (aD (aD (aN (aD (aD (aD (aD (aN (aN (aS eN)))))))))) (aN (aN (aN (aN (aD (aN (aS lV))))))))))))
 nx:=42668
 v:=aUX
 h':=aU (aU (aU (aU (aU (aU (aU (aD (aN (aU (aD (aN (aS aB6))) (aD (aD (aS aR8)))))) (aD (aD (aN (aD (aN (aD (aD (aD (aS (.cells ⟨[]⟩ 5))))))))))) (aD (aN (aU (aU (aD (aN (aS aB7))) (aD (aN (aN (aD (aN (aS aFh))))))) (aN (aD (aN (aD (aD (aD (aS zW))))))))))) (aD (aD (aN (aN (aN (aN (aN (aN (aD (aN (aS eN)))))))))))) (aU (aU (aD (aD (aD (aN (aD (aN (aD (aD (aD (aS aEa)))))))))) (aD (aD (aD (aN (aD (aN (aD (aD (aD (aS (.cells ⟨[]⟩ 3)))))))))))) (aU (aD (aD (aU (aN (aD (aS kO2))) (aN (aD (aN (aD (aD (aD (aS aEb)))))))))) (aU (aD (aD (aD (aD (aD (aD (aN (aN (aS aOf))))))))) (aD (aN (aD (aN (aD (aS aQF)))))))))) (aU (aU (aU (aU (aD (aD (aN (aN (aS oH))))) (aN (aD (aN (aD (aD (aS lV))))))) (aD (aD (aD (aN (aD (aN (aD (aD (aD (aS (.cells ⟨[]⟩ 3)))))))))))) (aD (aN (aN (aN (aN (aD (aD (aS lV))))))))) (aU (aU (aD (aU (aD (aD (aD (aN (aS iI))))) (aN (aD (aD (aN (aS iI))))))) (aN (aN (aD (aD (aD (aN (aS eN)))))))) (aD (aD (aN (aD (aD (aS kO0))))))))) (aU (aU (aD (aD (aD (aD (aD (aS eN)))))) (aU (aU (aU (aD (aN (aD (aD (aN (aD (aD (aD (aS eN))))))))) (aU (aD (aD (aD (aN (aS iI))))) (aN (aD (aD (aN (aS iI))))))) (aN (aN (aD (aD (aD (aN (aS eN)))))))) (aU (aD (aD (aN (aU (aD (aS aLE)) (aD (aN (aS oC))))))) (aU (aN (aD (aD (aD (aN (aS aFg)))))) (aN (aN (aD (aN (aN (aN (aD (aN (aS lV))))))))))))) (aU (aU (aD (aU (aU (aN (aD (aD (aD (aS eN))))) (aN (aD (aD (aN (aN (aD (aN (aS aTj))))))))) (aD (aD (aN (aN (aN (aS aAW)))))))) (aU (aD (aD (aN (aD (aD (aN (aS oC))))))) (aD (aU (aN (aD (aD (aN (aN (aD (aN (aS aSm)))))))) (aD (aN (aD (aN (aD (aD (aD (aS gQ)))))))))))) (aU (aN (aD (aD (aD (aD (aD (aD (aD (aN (aN (aS aSn))))))))))) (aD (aD (aU (aD (aN (aN (aS oH)))) (aN (aD (aD (aN (aS oH)))))))))))) (aU (aU (kTn (aN (aN (aU (aN (aD (aD (aN (aN (aN (aD (aN (aS aSo))))))))) (aD (aD (aN (aD (aD (aD (aN (aN (aS gQ)))))))))))) kO2 (aU (aU (aN (aD (aN (aD (aD (aN (aD (aD (aD (aS eN)))))))))) (aN (aN (aD (aD (aN (aN (aN (aD (aN (aS aSp))))))))))) (aN (aN (aD (aN (aD (aS eN)))))))) (aN (aN (aN (aN (aD (aD (aN (aN (aS kO7)))))))))) (aU (aU (aU (aU (aD (aD (aD (aN (aN (aN (aS eN))))))) (aD (aD (aN (aD (aD (aN (aS gQ)))))))) (aN (aU (aN (aD (aD (aN (aN (aN (aD (aN (aS aFh))))))))) (aN (aN (aD (aD (aN (aD (aD (aD (aS (.cells ⟨[]⟩ 5))))))))))))) (aU (aU (aD (aD (aD (aD (aN (aN (aN (aD (aN (aS eN)))))))))) (aU (aD (aN (aD (aS kO3)))) (aN (aN (aD (aD (aN (aD (aD (aD (aS aEc))))))))))) (aU (aD (aN (aU (aD (aD (aN (aD (aD (aD (aS aEd))))))) (aD (aD (aN (aD (aD (aD (aS aEe)))))))))) (aD (aN (aN (aD (aD (aN (aD (aD (aD (aS (.cells ⟨[]⟩ 3)))))))))))))) (aU (aN (aD (aD (aD (aN (aD (aD (aN (aS gQ))))))))) (aD (aU (aD (aD (aN (aD (aD (aD (aD (aN (aN (aS eN)))))))))) (aN (aN (aN (aN (aD (aN (aS lV))))))))))))
 nx':=63333
theorem aPf:wA Tryz.prog aS2:=xZ mY (l:=[wI,aAh,aBP,aCb,aNf,aPe]) (bV lC (bV oL (bV p8 (bV rK (bV aGX (bV aKe mS)))))) (k:=200) fun ro=>by kernel_rfl
end V
end Go.Proofs.YtcaccnneblghgaaGreat
namespace Go.Proofs.YtcaccnneblghgaaGreat
namespace V
set_option maxRecDepth 1000000
def aUY:List Value:=[.slice (some ⟨5931,0,(some 1)⟩) 1 1,.slice (some ⟨5835,0,(some 1)⟩) 1 1]
def aUZ:Value:=.tuple ⟨[.agg ⟨(aDv [.int .i64 2,.slice (some ⟨62815,0,(some 2)⟩) 0 0,.slice (some ⟨63322,0,(some 4)⟩) 2 2,.slice (some ⟨5931,0,(some 1)⟩) 1 1])⟩,j0]⟩
def aI0:Cp where
 f:=aCg
 args:=aUY
 h:=aU (aU (aU (aU (aN (aU (aN (aD (aN (aN (aD (aN (aS aB6))))))) (aD (aN (aN (aN (aD (aN (aS aB7))))))))) (aD (aN (aD (aD (aN (aN (aD (aS kO2))))))))) (aU (aN (aN (aN (aD (aD (aN (aN (aS oH)))))))) (aU (aU (aD (aD (aN (aD (aD (aN (aS iI))))))) (aN (aN (aD (aD (aD (aN (aS eN)))))))) (aD (aD (aN (aD (aD (aS kO0))))))))) (aU (aU (aD (aD (aD (aD (aD (aS eN)))))) (aU (aU (aD (aD (aN (aD (aD (aN (aS iI))))))) (aN (aN (aD (aD (aD (aN (aS eN)))))))) (aN (aD (aD (aN (aU (aD (aS aLE)) (aD (aN (aS oC)))))))))) (aU (aU (aD (aD (aD (aD (aN (aN (aN (aS aAW)))))))) (aN (aD (aD (aN (aD (aD (aN (aS oC))))))))) (aD (aD (aD (aU (aD (aN (aN (aS oH)))) (aN (aD (aD (aN (aS oH)))))))))))) (aU (aU (kTn .e kO2 (aD (aN (aN (aD (aN (aD (aS eN)))))))) (aN (aN (aN (aN (aD (aD (aN (aN (aS kO7)))))))))) (aU (aU (aN (aU (aD (aD (aD (aN (aN (aN (aS eN))))))) (aD (aD (aN (aD (aD (aN (aS gQ))))))))) (aN (aD (aN (aD (aN (aD (aS kO3)))))))) (aU (aN (aD (aD (aD (aN (aD (aD (aN (aS gQ))))))))) (aD (aD (aN (aN (aN (aN (aD (aN (aS lV))))))))))))
 nx:=5945
 v:=aUZ
 h':=aU (aU (aU (aU (aN (aU (aU (aD (aN (aN (aD (aN (aS aB6)))))) (aD (aD (aN (aD (aN (aD (aD (aD (aS (.cells ⟨[]⟩ 5))))))))))) (aD (aN (aU (aN (aD (aN (aS aB7)))) (aN (aD (aN (aD (aD (aD (aS zW)))))))))))) (aU (aU (aD (aD (aD (aN (aD (aN (aD (aD (aD (aS aEa)))))))))) (aD (aD (aD (aN (aD (aN (aD (aD (aD (aS (.cells ⟨[]⟩ 3)))))))))))) (aN (aD (aD (aU (aN (aD (aS kO2))) (aN (aD (aN (aD (aD (aD (aS aEb))))))))))))) (aU (aN (aU (aN (aD (aD (aN (aN (aS oH)))))) (aD (aD (aD (aN (aD (aN (aD (aD (aD (aS (.cells ⟨[]⟩ 3))))))))))))) (aU (aU (aD (aD (aN (aD (aD (aN (aS iI))))))) (aN (aN (aD (aD (aD (aN (aS eN)))))))) (aD (aD (aN (aD (aD (aS kO0))))))))) (aU (aU (aD (aD (aD (aD (aD (aS eN)))))) (aU (aU (aU (aD (aN (aD (aD (aN (aD (aD (aD (aS eN))))))))) (aD (aN (aD (aD (aN (aS iI))))))) (aN (aN (aD (aD (aD (aN (aS eN)))))))) (aN (aD (aD (aN (aU (aD (aS aLE)) (aD (aN (aS oC)))))))))) (aU (aU (aD (aD (aD (aD (aN (aN (aN (aS aAW)))))))) (aU (aD (aD (aN (aD (aD (aN (aS oC))))))) (aD (aD (aD (aN (aD (aN (aD (aD (aD (aS gQ)))))))))))) (aD (aD (aD (aU (aD (aN (aN (aS oH)))) (aN (aD (aD (aN (aS oH)))))))))))) (aU (aU (kTn .e kO2 (aU (aN (aN (aD (aN (aD (aD (aN (aD (aD (aD (aS eN))))))))))) (aN (aN (aD (aN (aD (aS eN)))))))) (aN (aN (aN (aN (aD (aD (aN (aN (aS kO7)))))))))) (aU (aU (aU (aU (aD (aD (aD (aN (aN (aN (aS eN))))))) (aD (aD (aN (aD (aD (aN (aS gQ)))))))) (aN (aD (aN (aN (aD (aD (aN (aD (aD (aD (aS (.cells ⟨[]⟩ 5))))))))))))) (aU (aD (aU (aD (aN (aD (aS kO3)))) (aN (aN (aD (aD (aN (aD (aD (aD (aS aEc))))))))))) (aU (aD (aN (aU (aD (aD (aN (aD (aD (aD (aS aEd))))))) (aD (aD (aN (aD (aD (aD (aS aEe)))))))))) (aD (aN (aN (aD (aD (aN (aD (aD (aD (aS (.cells ⟨[]⟩ 3)))))))))))))) (aU (aN (aD (aD (aD (aN (aD (aD (aN (aS gQ))))))))) (aD (aD (aN (aN (aN (aN (aD (aN (aS lV))))))))))))
 nx':=63345
theorem aBQ:wA Tryz.prog aI0:=xZ mY (l:=[wI,aAh,aBP,aCb,aNf,aPe,aS2]) (bV lC (bV oL (bV p8 (bV rK (bV aGX (bV aKe (bV aPf mS))))))) (k:=200) fun ro=>by kernel_rfl
end V
end Go.Proofs.YtcaccnneblghgaaGreat
namespace Go.Proofs.YtcaccnneblghgaaGreat
namespace V
set_option maxRecDepth 1000000
def aLF:Obj:=.cells ⟨[.slice (some ⟨3287,0,(some 1)⟩) 1 1,.slice (some ⟨5849,0,(some 1)⟩) 1 1,.slice (some ⟨5862,0,(some 1)⟩) 1 1,.slice (some ⟨63358,0,(some 260)⟩) 1 1]⟩ 34
def vM:Obj:=.cells ⟨(aDv [.int .i64 2,.slice (some ⟨62815,0,(some 2)⟩) 0 0,.slice (some ⟨63322,0,(some 4)⟩) 2 2,.slice (some ⟨5931,0,(some 1)⟩) 1 1])⟩ 65
def aQG:Obj:=.cells ⟨[.int .u64 0,.int .u64 8589934592,.int .u64 0,.int .u64 0,.int .i64 1,.int .i64 1,j0,.bool true,.slice (some ⟨64976,0,(some 1)⟩) 1 1,.int .u64 0,.int .u64 8589934592,.int .u64 0,.int .u64 0,.int .i64 1,.int .i64 1,j0,.bool true,.slice (some ⟨64704,0,(some 1)⟩) 1 1]⟩ 192
def aU0:Value:=.tuple ⟨[.agg ⟨[.slice (some ⟨65202,0,(some 1)⟩) 1 1,.slice (some ⟨64388,0,(some 9)⟩) 2 2]⟩,j0]⟩
def aNg:Cp where
 f:=aGg
 args:=[.slice (some ⟨63448,0,(some 1)⟩) 1 1]
 h:=aU (aU (aU (aU (aN (aU (aU (aD (aN (aN (aD (aN (aS aB6)))))) (aD (aD (aN (aD (aN (aD (aD (aD (aS (.cells ⟨[]⟩ 5))))))))))) (aD (aN (aU (aN (aD (aN (aS aB7)))) (aN (aD (aN (aD (aD (aD (aS zW)))))))))))) (aU (aU (aD (aD (aD (aN (aD (aN (aD (aD (aD (aS aEa)))))))))) (aD (aD (aD (aN (aD (aN (aD (aD (aD (aS (.cells ⟨[]⟩ 3)))))))))))) (aN (aD (aD (aU (aN (aD (aS kO2))) (aN (aD (aN (aD (aD (aD (aS aEb))))))))))))) (aU (aN (aU (aN (aD (aD (aN (aN (aS oH)))))) (aD (aD (aD (aN (aD (aN (aD (aD (aD (aS (.cells ⟨[]⟩ 3))))))))))))) (aU (aU (aD (aD (aN (aD (aD (aN (aS iI))))))) (aN (aN (aD (aD (aD (aN (aS eN)))))))) (aD (aD (aN (aD (aD (aS kO0))))))))) (aU (aU (aD (aU (aN (aD (aD (aD (aD (aN (aD (aD (aD (aS oH)))))))))) (aD (aD (aD (aS eN)))))) (aU (aU (aU (aD (aN (aD (aD (aN (aD (aD (aD (aS eN))))))))) (aD (aN (aD (aD (aN (aS iI))))))) (aN (aN (aD (aD (aD (aN (aS eN)))))))) (aN (aD (aD (aN (aU (aD (aS aLF)) (aD (aN (aS oC)))))))))) (aU (aU (aD (aD (aD (aD (aN (aN (aN (aS aAW)))))))) (aU (aD (aD (aN (aD (aD (aN (aS oC))))))) (aD (aD (aD (aN (aD (aN (aD (aD (aD (aS gQ)))))))))))) (aD (aD (aD (aU (aD (aN (aN (aS oH)))) (aN (aD (aD (aN (aS oH)))))))))))) (aU (aU (kTn .e kO2 (aU (aN (aN (aD (aN (aD (aD (aN (aD (aD (aD (aS eN))))))))))) (aU (aU (aD (aN (aD (aS eN)))) (aD (aD (aD (aD (aN (aD (aD (aD (aS iI)))))))))) (aN (aD (aD (aD (aD (aN (aD (aD (aD (aS eN))))))))))))) (aU (aU (aN (aN (aD (aD (aN (aN (aS kO7))))))) (aD (aD (aN (aD (aD (aD (aN (aD (aD (aD (aS vM)))))))))))) (aD (aD (aD (aN (aD (aD (aD (aN (aD (aD (aD (aS vM)))))))))))))) (aU (aU (aU (aU (aD (aD (aD (aN (aN (aN (aS eN))))))) (aD (aD (aN (aD (aD (aN (aS gQ)))))))) (aN (aD (aN (aN (aD (aD (aN (aD (aD (aD (aS (.cells ⟨[]⟩ 5))))))))))))) (aU (aD (aU (aD (aN (aD (aS kO3)))) (aN (aN (aD (aD (aN (aD (aD (aD (aS aEc))))))))))) (aU (aD (aN (aU (aD (aD (aN (aD (aD (aD (aS aEd))))))) (aD (aD (aN (aD (aD (aD (aS aEe)))))))))) (aD (aN (aN (aD (aD (aN (aD (aD (aD (aS (.cells ⟨[]⟩ 3)))))))))))))) (aU (aU (aU (aD (aD (aD (aD (aD (aN (aD (aD (aD (aS aFg)))))))))) (aD (aD (aN (aD (aD (aN (aS gQ)))))))) (aU (aD (aD (aD (aD (aD (aN (aD (aD (aD (aS iI)))))))))) (aN (aD (aD (aD (aD (aN (aD (aD (aD (aS eN)))))))))))) (aD (aD (aU (aN (aN (aN (aD (aN (aS lV)))))) (aN (aD (aD (aD (aN (aD (aD (aD (aS vM)))))))))))))))
 nx:=63459
 v:=aU0
 h':=aU (aU (aU (aU (aN (aU (aU (aD (aN (aN (aD (aN (aS aB6)))))) (aD (aD (aN (aD (aN (aD (aD (aD (aS (.cells ⟨[]⟩ 5))))))))))) (aD (aN (aU (aN (aD (aN (aS aB7)))) (aN (aD (aN (aD (aD (aD (aS zW)))))))))))) (aU (aU (aD (aD (aD (aN (aD (aN (aD (aD (aD (aS aEa)))))))))) (aD (aD (aD (aN (aD (aN (aD (aD (aD (aS (.cells ⟨[]⟩ 3)))))))))))) (aN (aD (aD (aU (aN (aD (aS kO2))) (aN (aD (aN (aD (aD (aD (aS aEb))))))))))))) (aU (aN (aU (aN (aD (aD (aN (aN (aS oH)))))) (aD (aD (aD (aN (aD (aN (aD (aD (aD (aS (.cells ⟨[]⟩ 3))))))))))))) (aU (aU (aD (aD (aN (aD (aD (aN (aS iI))))))) (aN (aN (aD (aD (aD (aN (aS eN)))))))) (aD (aD (aN (aD (aD (aS kO0))))))))) (aU (aU (aD (aU (aN (aD (aD (aD (aD (aN (aD (aD (aD (aS oH)))))))))) (aD (aD (aD (aS eN)))))) (aU (aU (aU (aD (aN (aD (aD (aN (aD (aD (aD (aS eN))))))))) (aD (aN (aD (aD (aN (aS iI))))))) (aN (aN (aD (aD (aD (aN (aS eN)))))))) (aN (aD (aD (aN (aU (aD (aS aLF)) (aD (aN (aS oC)))))))))) (aU (aU (aD (aD (aD (aD (aN (aN (aN (aS aAW)))))))) (aU (aD (aD (aN (aD (aD (aN (aS oC))))))) (aD (aD (aD (aN (aD (aN (aD (aD (aD (aS gQ)))))))))))) (aD (aD (aD (aU (aD (aN (aN (aS oH)))) (aN (aD (aD (aN (aS oH)))))))))))) (aU (aU (kTn (aU (aN (aD (aD (aN (aN (aD (aD (aD (aD (aD (aS lV))))))))))) (aN (aD (aD (aD (aN (aD (aD (aD (aD (aD (aS lV)))))))))))) kO2 (aU (aN (aN (aD (aN (aD (aD (aN (aD (aD (aD (aS eN))))))))))) (aU (aU (aD (aN (aD (aS eN)))) (aD (aD (aD (aD (aN (aD (aD (aD (aS iI)))))))))) (aN (aD (aD (aD (aD (aN (aD (aD (aD (aS eN))))))))))))) (aU (aU (aN (aN (aD (aD (aU (aN (aS kO7)) (aN (aD (aD (aD (aD (aS aQG))))))))))) (aD (aD (aN (aD (aD (aD (aN (aD (aD (aD (aS vM)))))))))))) (aD (aD (aD (aN (aD (aD (aD (aN (aD (aD (aD (aS vM)))))))))))))) (aU (aU (aU (aU (aD (aD (aD (aN (aN (aN (aS eN))))))) (aD (aD (aN (aD (aD (aN (aS gQ)))))))) (aU (aD (aN (aN (aD (aD (aN (aD (aD (aD (aS (.cells ⟨[]⟩ 5))))))))))) (aN (aD (aN (aD (aD (aD (aD (aD (aD (aS eN)))))))))))) (aU (aD (aU (aD (aN (aD (aS kO3)))) (aN (aN (aD (aD (aN (aD (aD (aD (aS aEc))))))))))) (aU (aD (aN (aU (aD (aD (aN (aD (aD (aD (aS aEd))))))) (aD (aD (aN (aD (aD (aD (aS aEe)))))))))) (aD (aN (aN (aD (aD (aN (aD (aD (aD (aS (.cells ⟨[]⟩ 3)))))))))))))) (aU (aU (aU (aD (aD (aD (aD (aD (aN (aD (aD (aD (aS aFg)))))))))) (aD (aD (aN (aD (aD (aN (aS gQ)))))))) (aU (aD (aD (aD (aD (aD (aN (aD (aD (aD (aS iI)))))))))) (aN (aD (aD (aD (aD (aN (aD (aD (aD (aS eN)))))))))))) (aD (aD (aU (aN (aN (aN (aD (aN (aS lV)))))) (aN (aD (aD (aD (aN (aD (aD (aD (aS vM)))))))))))))))
 nx':=65289
theorem aGY:wA Tryz.prog aNg:=xZ mY (l:=[wI,aAh,aBP,aCb,aI0]) (bV lC (bV oL (bV p8 (bV rK (bV aBQ mS))))) (k:=200) fun ro=>by kernel_rfl
end V
end Go.Proofs.YtcaccnneblghgaaGreat
namespace Go.Proofs.YtcaccnneblghgaaGreat
namespace V
set_option maxRecDepth 1000000
def aR9:Obj:=.cells ⟨[.slice (some ⟨65202,0,(some 1)⟩) 1 1,.slice (some ⟨64388,0,(some 9)⟩) 2 2]⟩ 136
def aSq:Obj:=.cells ⟨[.slice (some ⟨99231,0,(some 2)⟩) 2 2]⟩ 200
def aSr:Obj:=.cells ⟨[s0,s0,.slice (some ⟨97869,0,(some 1)⟩) 1 1,.slice (some ⟨98394,0,(some 1)⟩) 1 1,.slice (some ⟨98155,0,(some 1)⟩) 1 1,s0,.slice (some ⟨98556,0,(some 1)⟩) 1 1,.slice (some ⟨99253,0,(some 1)⟩) 1 1,.slice (some ⟨99078,0,(some 1)⟩) 1 1,s0,.slice (some ⟨99415,0,(some 1)⟩) 1 1,.slice (some ⟨100098,0,(some 1)⟩) 1 1]⟩ 160
def aSs:Obj:=.cells ⟨[.slice (some ⟨100076,0,(some 2)⟩) 2 2]⟩ 200
def aSt:Obj:=.cells ⟨[.slice (some ⟨98372,0,(some 2)⟩) 2 2]⟩ 200
def aU1:List Value:=[.agg ⟨[.slice (some ⟨65202,0,(some 1)⟩) 1 1,.slice (some ⟨64388,0,(some 9)⟩) 2 2]⟩]
def aU2:Value:=.tuple ⟨[.agg ⟨(aDv [.int .i64 2,s0,.slice (some ⟨99213,0,(some 4)⟩) 3 3])⟩,j0]⟩
def aPg:Cp where
 f:=aGh
 args:=aU1
 h:=aU (aU (aU (aU (aN (aU (aU (aD (aN (aN (aD (aN (aS aB6)))))) (aD (aD (aN (aD (aN (aD (aD (aD (aS (.cells ⟨[]⟩ 5))))))))))) (aD (aN (aU (aN (aD (aN (aS aB7)))) (aN (aD (aN (aD (aD (aD (aS zW)))))))))))) (aU (aU (aD (aD (aD (aN (aD (aN (aD (aD (aD (aS aEa)))))))))) (aD (aD (aD (aN (aD (aN (aD (aD (aD (aS (.cells ⟨[]⟩ 3)))))))))))) (aN (aD (aD (aU (aN (aD (aS kO2))) (aN (aD (aN (aD (aD (aD (aS aEb))))))))))))) (aU (aN (aU (aN (aD (aD (aN (aN (aS oH)))))) (aD (aD (aD (aN (aD (aN (aD (aD (aD (aS (.cells ⟨[]⟩ 3))))))))))))) (aU (aU (aD (aD (aN (aD (aD (aN (aS iI))))))) (aN (aN (aD (aD (aD (aN (aS eN)))))))) (aD (aD (aN (aD (aD (aS kO0))))))))) (aU (aU (aD (aU (aN (aD (aD (aD (aD (aN (aD (aD (aD (aS oH)))))))))) (aD (aD (aD (aS eN)))))) (aU (aU (aU (aD (aN (aD (aD (aN (aD (aD (aD (aS eN))))))))) (aD (aN (aD (aD (aN (aS iI))))))) (aN (aN (aD (aD (aD (aN (aS eN)))))))) (aN (aD (aD (aN (aU (aD (aS aLF)) (aD (aN (aS oC)))))))))) (aU (aU (aD (aD (aD (aD (aN (aN (aN (aS aAW)))))))) (aU (aD (aD (aN (aD (aD (aN (aS oC))))))) (aD (aD (aD (aN (aD (aN (aD (aD (aD (aS gQ)))))))))))) (aD (aD (aD (aU (aD (aN (aN (aS oH)))) (aN (aD (aD (aN (aS oH)))))))))))) (aU (aU (kTn (aU (aN (aD (aD (aN (aN (aD (aD (aD (aD (aD (aS lV))))))))))) (aN (aD (aD (aD (aN (aD (aD (aD (aD (aD (aS lV)))))))))))) kO2 (aU (aN (aN (aD (aN (aD (aD (aN (aD (aD (aD (aS eN))))))))))) (aU (aU (aD (aN (aD (aS eN)))) (aD (aD (aD (aD (aN (aD (aD (aD (aS iI)))))))))) (aN (aD (aD (aD (aD (aN (aD (aD (aD (aS eN))))))))))))) (aU (aU (aN (aN (aD (aD (aU (aN (aS kO7)) (aN (aD (aD (aD (aD (aS aQG))))))))))) (aD (aD (aN (aD (aD (aD (aN (aD (aD (aD (aS vM)))))))))))) (aU (aN (aN (aN (aD (aD (aD (aD (aD (aD (aD (aS aR9))))))))))) (aD (aD (aN (aD (aD (aD (aN (aD (aD (aD (aS vM)))))))))))))) (aU (aU (aU (aU (aD (aD (aD (aN (aN (aN (aS eN))))))) (aD (aD (aN (aD (aD (aN (aS gQ)))))))) (aU (aD (aN (aN (aD (aD (aN (aD (aD (aD (aS (.cells ⟨[]⟩ 5))))))))))) (aN (aD (aN (aD (aD (aD (aD (aD (aD (aS eN)))))))))))) (aU (aD (aU (aD (aN (aD (aS kO3)))) (aN (aN (aD (aD (aN (aD (aD (aD (aS aEc))))))))))) (aU (aD (aN (aU (aD (aD (aN (aD (aD (aD (aS aEd))))))) (aD (aD (aN (aD (aD (aD (aS aEe)))))))))) (aD (aN (aN (aD (aD (aN (aD (aD (aD (aS (.cells ⟨[]⟩ 3)))))))))))))) (aU (aU (aU (aD (aD (aD (aD (aD (aN (aD (aD (aD (aS aFg)))))))))) (aD (aD (aN (aD (aD (aN (aS gQ)))))))) (aU (aD (aD (aD (aD (aD (aN (aD (aD (aD (aS iI)))))))))) (aN (aD (aD (aD (aD (aN (aD (aD (aD (aS eN)))))))))))) (aD (aD (aU (aN (aN (aN (aD (aN (aS lV)))))) (aN (aD (aD (aD (aN (aD (aD (aD (aS vM)))))))))))))))
 nx:=65299
 v:=aU2
 h':=aU (aU (aU (aU (aN (aU (aU (aD (aN (aN (aD (aN (aS aB6)))))) (aD (aD (aN (aD (aN (aD (aD (aD (aS (.cells ⟨[]⟩ 5))))))))))) (aU (aD (aD (aD (aN (aN (aN (aN (aN (aD (aS aFh)))))))))) (aN (aU (aN (aD (aN (aS aB7)))) (aN (aD (aN (aD (aD (aD (aS zW)))))))))))) (aU (aU (aD (aD (aD (aN (aD (aN (aD (aD (aD (aS aEa)))))))))) (aD (aD (aD (aN (aD (aN (aD (aD (aD (aS (.cells ⟨[]⟩ 3)))))))))))) (aN (aD (aU (aN (aN (aD (aN (aN (aN (aN (aD (aS eN))))))))) (aU (aN (aD (aS kO2))) (aN (aD (aN (aD (aD (aD (aS aEb))))))))))))) (aU (aN (aU (aN (aD (aD (aN (aN (aS oH)))))) (aD (aD (aD (aN (aD (aN (aD (aD (aD (aS (.cells ⟨[]⟩ 3))))))))))))) (aU (aU (aD (aD (aN (aD (aD (aN (aS iI))))))) (aU (aN (aD (aD (aD (aN (aS eN)))))) (aN (aD (aD (aD (aD (aD (aD (aD (aN (aS eN)))))))))))) (aD (aD (aN (aD (aD (aS kO0))))))))) (aU (aU (aD (aU (aN (aD (aD (aD (aD (aN (aD (aD (aD (aS oH)))))))))) (aD (aD (aD (aS eN)))))) (aU (aU (aU (aD (aN (aD (aD (aN (aD (aD (aD (aS eN))))))))) (aD (aN (aD (aD (aN (aS iI))))))) (aN (aN (aD (aD (aD (aN (aS eN)))))))) (aN (aD (aD (aN (aU (aD (aS aLF)) (aD (aN (aS oC)))))))))) (aU (aU (aD (aD (aD (aD (aN (aN (aN (aS aAW)))))))) (aU (aD (aD (aN (aD (aD (aN (aS oC))))))) (aU (aD (aD (aD (aN (aN (aN (aN (aN (aD (aS aSq)))))))))) (aD (aD (aN (aD (aN (aD (aD (aD (aS gQ)))))))))))) (aU (aN (aU (aD (aD (aD (aN (aN (aN (aN (aN (aD (aS aSr)))))))))) (aN (aN (aD (aD (aD (aD (aD (aD (aN (aS gQ)))))))))))) (aD (aD (aU (aD (aN (aN (aS oH)))) (aN (aD (aD (aN (aS oH)))))))))))) (aU (aU (kTn (aU (aN (aD (aD (aN (aN (aD (aD (aD (aD (aD (aS lV))))))))))) (aN (aD (aD (aD (aN (aD (aD (aD (aD (aD (aS lV)))))))))))) kO2 (aU (aN (aN (aD (aN (aD (aD (aN (aD (aD (aD (aS eN))))))))))) (aU (aU (aD (aN (aD (aS eN)))) (aD (aD (aD (aD (aN (aD (aD (aD (aS iI)))))))))) (aN (aD (aD (aD (aD (aN (aD (aD (aD (aS eN))))))))))))) (aU (aU (aN (aU (aD (aD (aU (aN (aS kO7)) (aN (aD (aD (aD (aD (aS aQG))))))))) (aN (aN (aN (aN (aN (aN (aN (aN (aD (aS aOf)))))))))))) (aD (aD (aN (aD (aD (aD (aN (aD (aD (aD (aS vM)))))))))))) (aU (aU (aN (aN (aD (aD (aD (aD (aD (aD (aD (aS aR9)))))))))) (aD (aD (aN (aD (aD (aN (aN (aN (aN (aD (aS aFh)))))))))))) (aD (aD (aU (aD (aD (aD (aN (aD (aD (aD (aS vM)))))))) (aN (aN (aN (aN (aN (aN (aN (aD (aS eN))))))))))))))) (aU (aU (aU (aU (aU (aN (aD (aD (aD (aN (aN (aN (aN (aD (aS aSs)))))))))) (aD (aD (aN (aN (aN (aS eN))))))) (aD (aD (aN (aD (aD (aN (aS gQ)))))))) (aU (aD (aN (aN (aD (aD (aN (aD (aD (aD (aS (.cells ⟨[]⟩ 5))))))))))) (aN (aD (aN (aD (aD (aD (aD (aD (aD (aS eN)))))))))))) (aU (aD (aU (aD (aN (aD (aS kO3)))) (aN (aN (aD (aD (aN (aD (aD (aD (aS aEc))))))))))) (aU (aD (aN (aU (aU (aN (aN (aN (aN (aN (aD (aS aSt))))))) (aD (aN (aD (aD (aD (aS aEd))))))) (aD (aD (aN (aD (aD (aD (aS aEe)))))))))) (aD (aN (aN (aD (aD (aN (aD (aD (aD (aS (.cells ⟨[]⟩ 3)))))))))))))) (aU (aU (aU (aU (aN (aD (aD (aN (aN (aN (aN (aN (aD (aS lV)))))))))) (aD (aD (aD (aD (aN (aD (aD (aD (aS aFg)))))))))) (aD (aD (aN (aD (aD (aN (aS gQ)))))))) (aU (aD (aD (aD (aD (aD (aN (aD (aD (aD (aS iI)))))))))) (aN (aD (aD (aD (aD (aN (aD (aD (aD (aS eN)))))))))))) (aD (aD (aU (aN (aN (aN (aD (aN (aS lV)))))) (aN (aD (aD (aD (aN (aD (aD (aD (aS vM)))))))))))))))
 nx':=100143
theorem aKf:wA Tryz.prog aPg:=xZ mY (l:=[wI,aAh,aBP,aCb,aI0,aNg]) (bV lC (bV oL (bV p8 (bV rK (bV aBQ (bV aGY mS)))))) (k:=200) fun ro=>by kernel_rfl
end V
end Go.Proofs.YtcaccnneblghgaaGreat
namespace Go.Proofs.YtcaccnneblghgaaGreat
namespace V
set_option maxRecDepth 1000000
def aTk:Obj:=.cells ⟨(aDv [.int .i64 2,s0,.slice (some ⟨99213,0,(some 4)⟩) 3 3])⟩ 63
def aQH:Obj:=.cells ⟨[jm,s0,.int .i64 1,.slice (some ⟨120543,0,(some 1)⟩) 0 0]⟩ 202
def aQI:Obj:=.cells ⟨[.slice (some ⟨120432,0,(some 1)⟩) 0 0,.slice (some ⟨120436,0,(some 1)⟩) 0 0,.slice (some ⟨120450,0,(some 1)⟩) 1 1,.slice (some ⟨120420,0,(some 1)⟩) 1 1,.slice (some ⟨120597,0,(some 1)⟩) 1 1,.slice (some ⟨120583,0,(some 1)⟩) 0 0,.slice (some ⟨120598,0,(some 1)⟩) 1 1,.slice (some ⟨120567,0,(some 1)⟩) 1 1]⟩ 160
def aQJ:Obj:=.cells ⟨[.slice (some ⟨120551,0,(some 2)⟩) 2 2]⟩ 200
def aQK:Obj:=.cells ⟨[.slice (some ⟨120404,0,(some 2)⟩) 2 2]⟩ 200
def aQL:Obj:=.cells ⟨[jm,s0,.int .i64 1,.slice (some ⟨120396,0,(some 1)⟩) 0 0]⟩ 202
def aU3:List Value:=[.agg ⟨(aDv [.int .i64 2,s0,.slice (some ⟨99213,0,(some 4)⟩) 3 3])⟩]
def aU4:Value:=.tuple ⟨[.agg ⟨(aDv [.int .i64 2,.slice (some ⟨120300,0,(some 2)⟩) 0 0,.slice (some ⟨120807,0,(some 4)⟩) 2 2])⟩,j0]⟩
def aS3:Cp where
 f:=aGi
 args:=aU3
 h:=aU (aU (aU (aU (aN (aU (aU (aD (aN (aN (aD (aN (aS aB6)))))) (aD (aD (aN (aD (aN (aD (aD (aD (aS (.cells ⟨[]⟩ 5))))))))))) (aU (aD (aD (aD (aN (aN (aN (aN (aN (aD (aS aFh)))))))))) (aN (aU (aN (aD (aN (aS aB7)))) (aN (aD (aN (aD (aD (aD (aS zW)))))))))))) (aU (aU (aD (aD (aD (aN (aD (aN (aD (aD (aD (aS aEa)))))))))) (aD (aD (aD (aN (aD (aN (aD (aD (aD (aS (.cells ⟨[]⟩ 3)))))))))))) (aN (aD (aU (aN (aN (aD (aN (aN (aN (aN (aD (aS eN))))))))) (aU (aN (aD (aS kO2))) (aN (aD (aN (aD (aD (aD (aS aEb))))))))))))) (aU (aN (aU (aN (aD (aD (aN (aN (aS oH)))))) (aD (aD (aD (aN (aD (aN (aD (aD (aD (aS (.cells ⟨[]⟩ 3))))))))))))) (aU (aU (aD (aD (aN (aD (aD (aN (aS iI))))))) (aU (aN (aD (aD (aD (aN (aS eN)))))) (aN (aD (aD (aD (aD (aD (aD (aD (aN (aS eN)))))))))))) (aD (aD (aN (aD (aD (aS kO0))))))))) (aU (aU (aD (aU (aN (aD (aD (aD (aD (aN (aD (aD (aD (aS oH)))))))))) (aD (aD (aD (aS eN)))))) (aU (aU (aU (aD (aN (aD (aD (aN (aD (aD (aD (aS eN))))))))) (aD (aN (aD (aD (aN (aS iI))))))) (aN (aN (aD (aD (aD (aN (aS eN)))))))) (aN (aD (aD (aN (aU (aD (aS aLF)) (aD (aN (aS oC)))))))))) (aU (aU (aD (aD (aD (aD (aN (aN (aN (aS aAW)))))))) (aU (aD (aD (aN (aD (aD (aN (aS oC))))))) (aU (aD (aD (aD (aN (aN (aN (aN (aN (aD (aS aSq)))))))))) (aD (aD (aN (aD (aN (aD (aD (aD (aS gQ)))))))))))) (aU (aN (aU (aD (aD (aD (aN (aN (aN (aN (aN (aD (aS aSr)))))))))) (aN (aN (aD (aD (aD (aD (aD (aD (aN (aS gQ)))))))))))) (aD (aD (aU (aD (aN (aN (aS oH)))) (aN (aD (aD (aN (aS oH)))))))))))) (aU (aU (kTn (aU (aN (aD (aD (aN (aN (aD (aD (aD (aD (aD (aS lV))))))))))) (aN (aD (aD (aD (aN (aD (aD (aD (aD (aD (aS lV)))))))))))) kO2 (aU (aN (aN (aD (aN (aD (aD (aN (aD (aD (aD (aS eN))))))))))) (aU (aU (aD (aN (aD (aS eN)))) (aD (aD (aD (aD (aN (aD (aD (aD (aS iI)))))))))) (aN (aD (aD (aD (aD (aN (aD (aD (aD (aS eN))))))))))))) (aU (aU (aN (aU (aD (aD (aU (aN (aS kO7)) (aN (aD (aD (aD (aD (aS aQG))))))))) (aN (aN (aN (aN (aN (aN (aN (aN (aD (aS aOf)))))))))))) (aD (aD (aN (aD (aD (aD (aN (aD (aD (aD (aS vM)))))))))))) (aU (aU (aN (aN (aD (aD (aD (aD (aD (aD (aD (aS aR9)))))))))) (aD (aD (aN (aD (aD (aN (aN (aN (aN (aD (aS aFh)))))))))))) (aD (aD (aU (aD (aD (aD (aN (aD (aD (aD (aS vM)))))))) (aN (aN (aN (aN (aN (aN (aN (aD (aS eN))))))))))))))) (aU (aU (aU (aU (aU (aN (aD (aD (aD (aN (aN (aN (aN (aD (aS aSs)))))))))) (aD (aD (aN (aN (aN (aS eN))))))) (aD (aD (aN (aD (aD (aN (aS gQ)))))))) (aU (aD (aN (aN (aD (aD (aN (aD (aD (aD (aS (.cells ⟨[]⟩ 5))))))))))) (aN (aU (aD (aD (aD (aN (aN (aN (aN (aD (aS aTk))))))))) (aN (aD (aD (aD (aD (aD (aD (aS eN)))))))))))) (aU (aD (aU (aD (aN (aD (aS kO3)))) (aN (aN (aD (aD (aN (aD (aD (aD (aS aEc))))))))))) (aU (aD (aN (aU (aU (aN (aN (aN (aN (aN (aD (aS aSt))))))) (aD (aN (aD (aD (aD (aS aEd))))))) (aD (aD (aN (aD (aD (aD (aS aEe)))))))))) (aD (aN (aN (aD (aD (aN (aD (aD (aD (aS (.cells ⟨[]⟩ 3)))))))))))))) (aU (aU (aU (aU (aN (aD (aD (aN (aN (aN (aN (aN (aD (aS lV)))))))))) (aD (aD (aD (aD (aN (aD (aD (aD (aS aFg)))))))))) (aD (aD (aN (aD (aD (aN (aS gQ)))))))) (aU (aD (aD (aD (aD (aD (aN (aD (aD (aD (aS iI)))))))))) (aN (aD (aD (aD (aD (aN (aD (aD (aD (aS eN)))))))))))) (aD (aD (aU (aN (aN (aN (aD (aN (aS lV)))))) (aN (aD (aD (aD (aN (aD (aD (aD (aS vM)))))))))))))))
 nx:=100153
 v:=aU4
 h':=aU (aU (aU (aU (aN (aU (aU (aD (aN (aN (aD (aN (aS aB6)))))) (aD (aD (aN (aD (aN (aD (aD (aD (aS (.cells ⟨[]⟩ 5))))))))))) (aU (aD (aD (aD (aN (aN (aN (aN (aN (aD (aS aFh)))))))))) (aU (aU (aN (aD (aN (aS aB7)))) (aN (aD (aN (aD (aD (aD (aS zW)))))))) (aN (aD (aD (aN (aD (aN (aD (aD (aS (.cells ⟨[]⟩ 5)))))))))))))) (aU (aU (aU (aN (aD (aD (aD (aN (aD (aN (aD (aD (aS (.cells ⟨[]⟩ 3))))))))))) (aD (aD (aN (aD (aN (aD (aD (aD (aS aEa)))))))))) (aD (aD (aU (aD (aD (aN (aD (aN (aD (aD (aS aQH)))))))) (aU (aD (aN (aD (aD (aD (aS (.cells ⟨[]⟩ 3))))))) (aD (aN (aD (aN (aD (aD (aS aQI)))))))))))) (aU (aD (aU (aN (aN (aD (aN (aN (aN (aN (aD (aS eN))))))))) (aU (aN (aD (aS kO2))) (aN (aD (aN (aD (aD (aD (aS aEb)))))))))) (aD (aD (aN (aD (aD (aN (aD (aN (aD (aD (aS aQJ)))))))))))))) (aU (aN (aU (aN (aD (aD (aN (aN (aS oH)))))) (aD (aD (aD (aN (aD (aN (aD (aD (aD (aS (.cells ⟨[]⟩ 3))))))))))))) (aU (aU (aD (aD (aN (aD (aD (aN (aS iI))))))) (aU (aN (aD (aD (aD (aN (aS eN)))))) (aN (aD (aD (aD (aD (aD (aD (aD (aN (aS eN)))))))))))) (aD (aD (aN (aD (aD (aS kO0))))))))) (aU (aU (aD (aU (aN (aD (aD (aD (aD (aN (aD (aD (aD (aS oH)))))))))) (aD (aD (aD (aS eN)))))) (aU (aU (aU (aD (aN (aD (aD (aN (aD (aD (aD (aS eN))))))))) (aD (aN (aD (aD (aN (aS iI))))))) (aN (aN (aD (aD (aD (aN (aS eN)))))))) (aN (aD (aD (aN (aU (aD (aS aLF)) (aD (aN (aS oC)))))))))) (aU (aU (aD (aD (aD (aD (aN (aN (aN (aS aAW)))))))) (aU (aU (aN (aD (aD (aD (aN (aD (aN (aD (aD (aS eN)))))))))) (aD (aN (aD (aD (aN (aS oC))))))) (aU (aD (aD (aD (aN (aN (aN (aN (aN (aD (aS aSq)))))))))) (aD (aD (aN (aD (aN (aD (aD (aD (aS gQ)))))))))))) (aU (aN (aU (aD (aD (aD (aN (aN (aN (aN (aN (aD (aS aSr)))))))))) (aN (aN (aD (aD (aD (aD (aD (aD (aN (aS gQ)))))))))))) (aD (aD (aU (aD (aN (aN (aS oH)))) (aN (aD (aD (aN (aS oH)))))))))))) (aU (aU (kTn (aU (aN (aD (aD (aN (aN (aD (aD (aD (aD (aD (aS lV))))))))))) (aU (aD (aD (aD (aN (aD (aD (aD (aD (aD (aS lV)))))))))) (aD (aN (aN (aD (aD (aN (aD (aN (aD (aD (aS (.cells ⟨[]⟩ 3)))))))))))))) kO2 (aU (aN (aN (aD (aN (aD (aD (aN (aD (aD (aD (aS eN))))))))))) (aU (aU (aD (aN (aD (aS eN)))) (aD (aD (aD (aD (aN (aD (aD (aD (aS iI)))))))))) (aN (aD (aD (aD (aD (aN (aD (aD (aD (aS eN))))))))))))) (aU (aU (aU (aU (aD (aD (aU (aN (aS kO7)) (aN (aD (aD (aD (aD (aS aQG))))))))) (aN (aN (aN (aN (aN (aN (aN (aN (aD (aS aOf))))))))))) (aD (aN (aN (aD (aD (aN (aD (aN (aD (aD (aS aQK)))))))))))) (aU (aD (aN (aN (aD (aD (aN (aD (aN (aD (aD (aS aQL))))))))))) (aD (aN (aU (aD (aD (aN (aD (aN (aD (aD (aS (.cells ⟨[]⟩ 3))))))))) (aD (aD (aN (aD (aD (aD (aS vM)))))))))))) (aU (aU (aU (aN (aD (aD (aD (aD (aD (aD (aD (aS aR9))))))))) (aN (aN (aD (aD (aN (aD (aN (aD (aD (aS (.cells ⟨[]⟩ 5)))))))))))) (aD (aD (aU (aD (aD (aN (aN (aN (aN (aD (aS aFh)))))))) (aN (aD (aN (aD (aN (aD (aD (aS zW)))))))))))) (aD (aD (aU (aD (aD (aD (aN (aD (aD (aD (aS vM)))))))) (aN (aN (aN (aN (aN (aN (aN (aD (aS eN))))))))))))))) (aU (aU (aU (aU (aU (aU (aD (aD (aD (aN (aN (aN (aN (aD (aS aSs))))))))) (aN (aD (aD (aN (aD (aN (aD (aD (aS gQ)))))))))) (aD (aD (aN (aN (aN (aS eN))))))) (aD (aD (aN (aD (aD (aN (aS gQ)))))))) (aU (aD (aN (aN (aD (aD (aN (aD (aD (aD (aS (.cells ⟨[]⟩ 5))))))))))) (aN (aU (aD (aD (aD (aN (aN (aN (aN (aD (aS aTk))))))))) (aN (aD (aD (aD (aD (aD (aD (aS eN)))))))))))) (aU (aD (aU (aD (aN (aD (aS kO3)))) (aN (aN (aD (aD (aN (aD (aD (aD (aS aEc))))))))))) (aU (aD (aN (aU (aU (aN (aN (aN (aN (aN (aD (aS aSt))))))) (aD (aN (aD (aD (aD (aS aEd))))))) (aD (aD (aN (aD (aD (aD (aS aEe)))))))))) (aD (aN (aN (aD (aD (aN (aD (aD (aD (aS (.cells ⟨[]⟩ 3)))))))))))))) (aU (aU (aU (aU (aN (aD (aD (aN (aN (aN (aN (aN (aD (aS lV)))))))))) (aD (aD (aD (aD (aN (aD (aD (aD (aS aFg)))))))))) (aD (aD (aN (aD (aD (aN (aS gQ)))))))) (aU (aU (aN (aD (aD (aD (aN (aD (aN (aD (aD (aS eN)))))))))) (aD (aD (aD (aD (aN (aD (aD (aD (aS iI)))))))))) (aN (aD (aD (aD (aD (aN (aD (aD (aD (aS eN)))))))))))) (aD (aD (aU (aN (aN (aN (aD (aN (aS lV)))))) (aN (aD (aD (aD (aN (aD (aD (aD (aS vM)))))))))))))))
 nx':=120818
theorem aPh:wA Tryz.prog aS3:=xZ mY (l:=[wI,aAh,aBP,aCb,aI0,aNg,aPg]) (bV lC (bV oL (bV p8 (bV rK (bV aBQ (bV aGY (bV aKf mS))))))) (k:=200) fun ro=>by kernel_rfl
end V
end Go.Proofs.YtcaccnneblghgaaGreat
namespace Go.Proofs.YtcaccnneblghgaaGreat
namespace V
set_option maxRecDepth 1000000
def aU5:List Value:=[.slice (some ⟨63416,0,(some 1)⟩) 1 1,.slice (some ⟨5835,0,(some 1)⟩) 1 1]
def aU6:Value:=.tuple ⟨[.agg ⟨(aDv [.int .i64 2,.slice (some ⟨120300,0,(some 2)⟩) 0 0,.slice (some ⟨120807,0,(some 4)⟩) 2 2,.slice (some ⟨63416,0,(some 1)⟩) 1 1])⟩,j0]⟩
def aS4:Cp where
 f:=aCg
 args:=aU5
 h:=aU (aU (aU (aU (aN (aU (aU (aD (aN (aN (aD (aN (aS aB6)))))) (aD (aD (aN (aD (aN (aD (aD (aD (aS (.cells ⟨[]⟩ 5))))))))))) (aD (aN (aU (aN (aD (aN (aS aB7)))) (aN (aD (aN (aD (aD (aD (aS zW)))))))))))) (aU (aU (aD (aD (aD (aN (aD (aN (aD (aD (aD (aS aEa)))))))))) (aD (aD (aD (aN (aD (aN (aD (aD (aD (aS (.cells ⟨[]⟩ 3)))))))))))) (aN (aD (aD (aU (aN (aD (aS kO2))) (aN (aD (aN (aD (aD (aD (aS aEb))))))))))))) (aU (aN (aU (aN (aD (aD (aN (aN (aS oH)))))) (aD (aD (aD (aN (aD (aN (aD (aD (aD (aS (.cells ⟨[]⟩ 3))))))))))))) (aU (aU (aD (aD (aN (aD (aD (aN (aS iI))))))) (aN (aN (aD (aD (aD (aN (aS eN)))))))) (aD (aD (aN (aD (aD (aS kO0))))))))) (aU (aU (aD (aU (aN (aD (aD (aD (aD (aN (aD (aD (aD (aS oH)))))))))) (aD (aD (aD (aS eN)))))) (aU (aU (aU (aD (aN (aD (aD (aN (aD (aD (aD (aS eN))))))))) (aD (aN (aD (aD (aN (aS iI))))))) (aN (aN (aD (aD (aD (aN (aS eN)))))))) (aN (aD (aD (aN (aU (aD (aS aLF)) (aD (aN (aS oC)))))))))) (aU (aU (aD (aD (aD (aD (aN (aN (aN (aS aAW)))))))) (aU (aD (aD (aN (aD (aD (aN (aS oC))))))) (aD (aD (aD (aN (aD (aN (aD (aD (aD (aS gQ)))))))))))) (aD (aD (aD (aU (aD (aN (aN (aS oH)))) (aN (aD (aD (aN (aS oH)))))))))))) (aU (aU (kTn .e kO2 (aU (aN (aN (aD (aN (aD (aD (aN (aD (aD (aD (aS eN))))))))))) (aU (aN (aD (aN (aD (aS eN))))) (aN (aD (aD (aD (aD (aN (aD (aD (aD (aS eN))))))))))))) (aU (aU (aN (aN (aD (aD (aN (aN (aS kO7))))))) (aD (aD (aN (aD (aD (aD (aN (aD (aD (aD (aS vM)))))))))))) (aD (aD (aD (aN (aD (aD (aD (aN (aD (aD (aD (aS vM)))))))))))))) (aU (aU (aU (aU (aD (aD (aD (aN (aN (aN (aS eN))))))) (aD (aD (aN (aD (aD (aN (aS gQ)))))))) (aN (aD (aN (aN (aD (aD (aN (aD (aD (aD (aS (.cells ⟨[]⟩ 5))))))))))))) (aU (aD (aU (aD (aN (aD (aS kO3)))) (aN (aN (aD (aD (aN (aD (aD (aD (aS aEc))))))))))) (aU (aD (aN (aU (aD (aD (aN (aD (aD (aD (aS aEd))))))) (aD (aD (aN (aD (aD (aD (aS aEe)))))))))) (aD (aN (aN (aD (aD (aN (aD (aD (aD (aS (.cells ⟨[]⟩ 3)))))))))))))) (aU (aU (aD (aD (aD (aN (aD (aD (aN (aS gQ)))))))) (aD (aN (aD (aD (aD (aD (aN (aD (aD (aD (aS eN)))))))))))) (aD (aD (aU (aN (aN (aN (aD (aN (aS lV)))))) (aN (aD (aD (aD (aN (aD (aD (aD (aS vM)))))))))))))))
 nx:=63430
 v:=aU6
 h':=aU (aU (aU (aU (aN (aU (aU (aD (aN (aN (aD (aN (aS aB6)))))) (aD (aD (aN (aD (aN (aD (aD (aD (aS (.cells ⟨[]⟩ 5))))))))))) (aD (aU (aU (aN (aD (aN (aS aB7)))) (aN (aD (aN (aD (aD (aD (aS zW)))))))) (aN (aD (aD (aN (aD (aN (aD (aD (aS (.cells ⟨[]⟩ 5)))))))))))))) (aU (aU (aU (aN (aD (aD (aD (aN (aD (aN (aD (aD (aS (.cells ⟨[]⟩ 3))))))))))) (aD (aD (aN (aD (aN (aD (aD (aD (aS aEa)))))))))) (aD (aD (aU (aD (aD (aN (aD (aN (aD (aD (aS aQH)))))))) (aU (aD (aN (aD (aD (aD (aS (.cells ⟨[]⟩ 3))))))) (aD (aN (aD (aN (aD (aD (aS aQI)))))))))))) (aU (aD (aD (aU (aN (aD (aS kO2))) (aN (aD (aN (aD (aD (aD (aS aEb)))))))))) (aD (aD (aN (aD (aD (aN (aD (aN (aD (aD (aS aQJ)))))))))))))) (aU (aN (aU (aN (aD (aD (aN (aN (aS oH)))))) (aD (aD (aD (aN (aD (aN (aD (aD (aD (aS (.cells ⟨[]⟩ 3))))))))))))) (aU (aU (aD (aD (aN (aD (aD (aN (aS iI))))))) (aN (aN (aD (aD (aD (aN (aS eN)))))))) (aD (aD (aN (aD (aD (aS kO0))))))))) (aU (aU (aD (aU (aN (aD (aD (aD (aD (aN (aD (aD (aD (aS oH)))))))))) (aD (aD (aD (aS eN)))))) (aU (aU (aU (aD (aN (aD (aD (aN (aD (aD (aD (aS eN))))))))) (aD (aN (aD (aD (aN (aS iI))))))) (aN (aN (aD (aD (aD (aN (aS eN)))))))) (aN (aD (aD (aN (aU (aD (aS aLF)) (aD (aN (aS oC)))))))))) (aU (aU (aD (aD (aD (aD (aN (aN (aN (aS aAW)))))))) (aU (aU (aN (aD (aD (aD (aN (aD (aN (aD (aD (aS eN)))))))))) (aD (aN (aD (aD (aN (aS oC))))))) (aD (aD (aD (aN (aD (aN (aD (aD (aD (aS gQ)))))))))))) (aD (aD (aD (aU (aD (aN (aN (aS oH)))) (aN (aD (aD (aN (aS oH)))))))))))) (aU (aU (kTn (aD (aD (aD (aN (aN (aD (aD (aN (aD (aN (aD (aD (aS (.cells ⟨[]⟩ 3)))))))))))))) kO2 (aU (aN (aN (aD (aN (aD (aD (aN (aD (aD (aD (aS eN))))))))))) (aU (aN (aD (aN (aD (aS eN))))) (aN (aD (aD (aD (aD (aN (aD (aD (aD (aS eN))))))))))))) (aU (aU (aU (aN (aD (aD (aN (aN (aS kO7)))))) (aD (aN (aN (aD (aD (aN (aD (aN (aD (aD (aS aQK)))))))))))) (aU (aD (aN (aN (aD (aD (aN (aD (aN (aD (aD (aS aQL))))))))))) (aD (aN (aU (aD (aD (aN (aD (aN (aD (aD (aS (.cells ⟨[]⟩ 3))))))))) (aD (aD (aN (aD (aD (aD (aS vM)))))))))))) (aU (aU (aD (aN (aN (aD (aD (aN (aD (aN (aD (aD (aS (.cells ⟨[]⟩ 5)))))))))))) (aD (aD (aD (aN (aD (aN (aD (aN (aD (aD (aS zW)))))))))))) (aD (aD (aN (aD (aD (aD (aN (aD (aD (aD (aS vM)))))))))))))) (aU (aU (aU (aU (aU (aD (aN (aD (aD (aN (aD (aN (aD (aD (aS gQ)))))))))) (aD (aD (aN (aN (aN (aS eN))))))) (aD (aD (aN (aD (aD (aN (aS gQ)))))))) (aN (aD (aN (aN (aD (aD (aN (aD (aD (aD (aS (.cells ⟨[]⟩ 5))))))))))))) (aU (aD (aU (aD (aN (aD (aS kO3)))) (aN (aN (aD (aD (aN (aD (aD (aD (aS aEc))))))))))) (aU (aD (aN (aU (aD (aD (aN (aD (aD (aD (aS aEd))))))) (aD (aD (aN (aD (aD (aD (aS aEe)))))))))) (aD (aN (aN (aD (aD (aN (aD (aD (aD (aS (.cells ⟨[]⟩ 3)))))))))))))) (aU (aU (aD (aD (aD (aN (aD (aD (aN (aS gQ)))))))) (aU (aN (aN (aD (aD (aD (aN (aD (aN (aD (aD (aS eN))))))))))) (aN (aD (aD (aD (aD (aN (aD (aD (aD (aS eN)))))))))))) (aD (aD (aU (aN (aN (aN (aD (aN (aS lV)))))) (aN (aD (aD (aD (aN (aD (aD (aD (aS vM)))))))))))))))
 nx':=120830
theorem aPi:wA Tryz.prog aS4:=xZ mY (l:=[wI,aAh,aBP,aCb,aI0,aNg,aPg,aS3]) (bV lC (bV oL (bV p8 (bV rK (bV aBQ (bV aGY (bV aKf (bV aPh mS)))))))) (k:=200) fun ro=>by kernel_rfl
end V
end Go.Proofs.YtcaccnneblghgaaGreat
namespace Go.Proofs.YtcaccnneblghgaaGreat
namespace V
set_option maxRecDepth 1000000
def aSu:Obj:=.cells ⟨(aDv [.int .i64 2,.slice (some ⟨62815,0,(some 2)⟩) 0 0,.slice (some ⟨63322,0,(some 4)⟩) 2 2,.slice (some ⟨5931,0,(some 1)⟩) 1 1,b0,b0,b0,b0,b0,b0,b0,b0,b0,b0,b0,b0,b0,b0,b0,b0,b0,b0,b0,b0,b0,b0,b0,b0,b0,b0,b0,b0,b0,b0,b0,b0,b0,b0,b0,b0,b0,b0,b0,b0,b0,b0,b0,b0,b0,b0,b0,b0,b0,b0,b0,b0,b0,b0,b0,b0,b0,b0,b0,b0,b0,b0,b0,b0,b0,b0,b0,b0,b0,b0,b0,b0,b0,b0,b0,b0,b0,b0,b0,b0,b0,b0,b0,b0,b0,b0,b0,b0,b0,b0,b0,b0,b0,b0,b0,b0,b0,b1,b0,b0,b0,b0,b0,b0,b0,b0,b0,b0,b0,b0,b0,b0,b0,b0,b0,b0,b0,b0,b0,b0,b0,b0,b0,b0,b0,b0,b0,b0,b0,b0,b0,b0,b0,b0,b0,b0,b0,b0,b0,b0,b0,b0,b0,b0,b0,b0,b0,b0,b0,b0,b0,b0,b0,b0,b0,b0,b0,b0,b0,b0,b0,b0,b0,b0,b0,b0,b0,b0,b0,b0,b0,b0,b0,b0,b0,b0,b0,b0,b0,b0,b0,b0,b0,b0,b0,b0,b0,b0,b0,b0,b0,b0,b0,b0,b0,b0,b0,b0,b0,b0,b0,b0,b0,b0,b0,b0,b0,b0,b0,b0,b0,b0,b0,b0,b0,b0,b0,b0,b0,b0,b0,b0,b0,b0,b0,b0,b0,b0,b0,b0,b0,b0,b0,b0,b0,b0,b0,b0,b0,b0,b0,b0,b0,b0,b0,b0,b0,b0,b0,b0,b0,b0,b0,b0,b0,b0,.int .i64 2,.slice (some ⟨120300,0,(some 2)⟩) 0 0,.slice (some ⟨120807,0,(some 4)⟩) 2 2,.slice (some ⟨63416,0,(some 1)⟩) 1 1])⟩ 65
def aU7:List Value:=[.agg ⟨[.slice (some ⟨8,0,(some 1)⟩) 1 1,s0,.slice (some ⟨1915,0,(some 7)⟩) 1 1]⟩,.int .i64 9]
def aU8:Value:=.tuple ⟨[.agg ⟨[.slice (some ⟨3287,0,(some 1)⟩) 1 1,.slice (some ⟨5849,0,(some 1)⟩) 1 1,.slice (some ⟨5862,0,(some 1)⟩) 1 1,.slice (some ⟨120843,0,(some 260)⟩) 2 2]⟩,j0,j0]⟩
def aPj:Cp where
 f:=aFe
 args:=aU7
 h:=aU (aU (aD (aD (aD (aD (aD (aN (aD (aD (aS kO0))))))))) (aU (aN (aD (aD (aD (aD (aD (aS eN))))))) (aD (aD (aD (aD (aN (aD (aN (aN (aS oH))))))))))) (aU (aN (kTn .e kO2 (aD (aN (aN (aD (aN (aD (aS eN))))))))) (aN (aD (aN (aD (aN (aD (aN (aD (aS kO3))))))))))
 nx:=2435
 v:=aU8
 h':=aU (aU (aU (aU (aN (aU (aD (aD (aD (aN (aD (aN (aD (aD (aD (aS (.cells ⟨[]⟩ 5))))))))))) (aD (aU (aD (aN (aD (aN (aD (aD (aD (aS zW)))))))) (aN (aD (aD (aN (aD (aN (aD (aD (aS (.cells ⟨[]⟩ 5)))))))))))))) (aU (aU (aU (aN (aD (aD (aD (aN (aD (aN (aD (aD (aS (.cells ⟨[]⟩ 3))))))))))) (aD (aD (aN (aD (aN (aD (aD (aD (aS aEa)))))))))) (aD (aD (aU (aD (aD (aN (aD (aN (aD (aD (aS aQH)))))))) (aU (aD (aN (aD (aD (aD (aS (.cells ⟨[]⟩ 3))))))) (aD (aN (aD (aN (aD (aD (aS aQI)))))))))))) (aU (aD (aD (aU (aN (aD (aS kO2))) (aN (aD (aN (aD (aD (aD (aS aEb)))))))))) (aD (aD (aN (aD (aD (aN (aD (aN (aD (aD (aS aQJ)))))))))))))) (aU (aN (aD (aD (aD (aD (aN (aD (aN (aD (aD (aD (aS (.cells ⟨[]⟩ 3))))))))))))) (aU (aU (aN (aN (aN (aN (aN (aD (aD (aN (aD (aD (aS aSu))))))))))) (aN (aN (aD (aD (aD (aN (aS eN)))))))) (aD (aD (aN (aD (aD (aS kO0))))))))) (aU (aU (aD (aD (aD (aD (aD (aS eN)))))) (aU (aN (aN (aD (aN (aD (aD (aN (aD (aD (aD (aS eN))))))))))) (aN (aD (aD (aN (aD (aD (aN (aS oC)))))))))) (aU (aD (aU (aN (aN (aD (aD (aD (aN (aD (aN (aD (aD (aS eN))))))))))) (aD (aD (aD (aN (aD (aN (aD (aD (aD (aS gQ)))))))))))) (aD (aD (aD (aN (aD (aN (aN (aS oH))))))))))) (aU (aU (kTn (aD (aD (aD (aN (aN (aD (aD (aN (aD (aN (aD (aD (aS (.cells ⟨[]⟩ 3)))))))))))))) kO2 (aU (aN (aN (aD (aN (aD (aD (aN (aD (aD (aD (aS eN))))))))))) (aU (aN (aD (aN (aD (aS eN))))) (aN (aD (aD (aD (aD (aN (aD (aD (aD (aS eN))))))))))))) (aU (aU (aD (aD (aN (aN (aD (aD (aN (aD (aN (aD (aD (aS aQK)))))))))))) (aU (aD (aN (aN (aD (aD (aN (aD (aN (aD (aD (aS aQL))))))))))) (aD (aN (aN (aD (aD (aN (aD (aN (aD (aD (aS (.cells ⟨[]⟩ 3)))))))))))))) (aN (aU (aD (aN (aN (aD (aD (aN (aD (aN (aD (aD (aS (.cells ⟨[]⟩ 5)))))))))))) (aD (aD (aD (aN (aD (aN (aD (aN (aD (aD (aS zW))))))))))))))) (aU (aU (aU (aN (aN (aD (aN (aD (aD (aN (aD (aN (aD (aD (aS gQ)))))))))))) (aN (aD (aN (aN (aD (aD (aN (aD (aD (aD (aS (.cells ⟨[]⟩ 5))))))))))))) (aU (aD (aU (aD (aN (aD (aS kO3)))) (aN (aN (aD (aD (aN (aD (aD (aD (aS aEc))))))))))) (aU (aD (aN (aU (aD (aD (aN (aD (aD (aD (aS aEd))))))) (aD (aD (aN (aD (aD (aD (aS aEe)))))))))) (aD (aN (aN (aD (aD (aN (aD (aD (aD (aS (.cells ⟨[]⟩ 3)))))))))))))) (aN (aU (aD (aD (aD (aN (aD (aD (aN (aS gQ)))))))) (aN (aN (aN (aD (aD (aD (aN (aD (aN (aD (aD (aS eN))))))))))))))))
 nx':=120859
theorem aKg:wA Tryz.prog aPj:=xZ mY (l:=[wI,aAh,aBP,aCb,aI0,aS4]) (bV lC (bV oL (bV p8 (bV rK (bV aBQ (bV aPi mS)))))) (k:=200) fun ro=>by kernel_rfl
end V
end Go.Proofs.YtcaccnneblghgaaGreat
namespace Go.Proofs.YtcaccnneblghgaaGreat
namespace V
set_option maxRecDepth 1000000
def aTl:Obj:=.cells ⟨[.slice (some ⟨3287,0,(some 1)⟩) 1 1,.slice (some ⟨5849,0,(some 1)⟩) 1 1,.slice (some ⟨5862,0,(some 1)⟩) 1 1,.slice (some ⟨120843,0,(some 260)⟩) 2 2]⟩ 34
def aUA:Obj:=.cells ⟨[.slice (some ⟨139622,0,(some 2)⟩) 2 2]⟩ 200
def aUB:Obj:=.cells ⟨[.slice (some ⟨134894,0,(some 2)⟩) 2 2]⟩ 200
def aUC:Obj:=.cells ⟨(aDv [.int .i64 2,.slice (some ⟨139451,0,(some 2)⟩) 0 0,.slice (some ⟨139690,0,(some 4)⟩) 2 2,j0,s0,j0])⟩ 148
def aUD:Obj:=.cells ⟨(aDv [.int .i64 2,.slice (some ⟨134723,0,(some 2)⟩) 0 0,.slice (some ⟨134962,0,(some 4)⟩) 2 2,j0,s0,j0])⟩ 148
def aUE:Obj:=.cells ⟨[.slice (some ⟨134776,0,(some 2)⟩) 2 2]⟩ 200
def aUF:Obj:=.cells ⟨[.slice (some ⟨139504,0,(some 2)⟩) 2 2]⟩ 200
def aUG:Obj:=.cells ⟨[jm,s0,.int .i64 1,.slice (some ⟨139546,0,(some 1)⟩) 0 0]⟩ 202
def aUH:Obj:=.cells ⟨(aTm [j0,s0,s0,.slice (some ⟨135022,0,(some 1)⟩) 1 1,b0,b0,b0,b0,b0,b0,b0,b0,b0,b0,b0,b0,b0,b0,b0,b0,b0,b0,b0,b0,b0,b0,b0,b0,b0,b0,b0,b0,b0,b0,b0,b0,b0,b0,b0,b0,b0,b0,b0,b0,b0,b0,b0,b0,b0,b0,b0,b0,b0,b0,b0,b0,b0,b0,b0,b0,b0,b0,b0,b0,b0,b0,b0,b0,b0,b0,b0,b0,b0,b0,b0,b0,b0,b0,b0,b0,b0,b0,b0,b0,b0,b0,b0,b0,b0,b0,b0,b0,b0,b0,b0,b0,b0,b0,b0,b0,b0,b0,b0,b0,b0,b0,b0,b0,b0,b0,b0,b0,b0,b0,b0,b0,b0,b0,b0,b0,b0,b0,b0,b0,b0,b0,b0,b0,b0,b0,b0,b0,b0,b0,b0,b0,b0,b0,b0,b0,b0,b0,b0,b0,b0,b0,b0,b0,b0,b0,b0,b0,b0,b0,b0,b0,b0,b0,b0,b0,b0,b0,b0,b0,b0,b0,b0,b0,b0,b0,b0,b0,b0,b0,b0,b0,b0,b0,b0,b0,b0,b0,b0,b0,b0,b0,b0,b0,b0,b0,b0,b0,b0,b0,b0,b0,b0,b0,b0,b0,b0,b0,b0,b0,b0,b0,b0,b0,b0,b0,b0,b0,b0,b0,b0,b0,b0,b0,b0,b0,b0,b0,b0,b0,b0,b0,b0,b0,b0,b0,b0,b0,b0,b0,b0,b0,b0,b0,b0,b0,b0,b0,b0,b0,b0,b0,b0,b0,b0,b0,b0,b0,b0,b0,b0,b0,b0,b0,b0,b0,j0,s0,s0,.slice (some ⟨139750,0,(some 1)⟩) 1 1])⟩ 65
def aUI:Obj:=.cells ⟨[jm,s0,.int .i64 1,.slice (some ⟨134818,0,(some 1)⟩) 0 0]⟩ 202
def aUJ:Obj:=.cells ⟨[.pointer (some ⟨134971,0,(some 0)⟩),.pointer (some ⟨139699,0,(some 0)⟩)]⟩ 101
def aUK:Obj:=.cells ⟨[s0,.slice (some ⟨134748,0,(some 1)⟩) 0 0,.slice (some ⟨134758,0,(some 1)⟩) 1 1,.slice (some ⟨134833,0,(some 1)⟩) 1 1,s0,.slice (some ⟨134866,0,(some 1)⟩) 0 0,.slice (some ⟨134876,0,(some 1)⟩) 1 1,.slice (some ⟨134951,0,(some 1)⟩) 1 1]⟩ 160
def aUL:Obj:=.cells ⟨[s0,.slice (some ⟨139476,0,(some 1)⟩) 0 0,.slice (some ⟨139486,0,(some 1)⟩) 1 1,.slice (some ⟨139561,0,(some 1)⟩) 1 1,s0,.slice (some ⟨139594,0,(some 1)⟩) 0 0,.slice (some ⟨139604,0,(some 1)⟩) 1 1,.slice (some ⟨139679,0,(some 1)⟩) 1 1]⟩ 160
def aUM:Obj:=.cells ⟨[s0,.slice (some ⟨130285,0,(some 1)⟩) 1 1,.slice (some ⟨130293,0,(some 1)⟩) 1 1,.slice (some ⟨139752,0,(some 260)⟩) 2 2,.slice (some ⟨139724,0,(some 1)⟩) 2 2,.int .i64 9,s0,j0,.bool true,j0,j0,j0,jm,j0,.bool false,j0]⟩ 98
def aUN:Obj:=.cells ⟨[jm,s0,.int .i64 1,.slice (some ⟨139664,0,(some 1)⟩) 0 0]⟩ 202
def aUO:Obj:=.cells ⟨[jm,s0,.int .i64 1,.slice (some ⟨134936,0,(some 1)⟩) 0 0]⟩ 202
def aU9:List Value:=[.agg ⟨[.slice (some ⟨3287,0,(some 1)⟩) 1 1,.slice (some ⟨5849,0,(some 1)⟩) 1 1,.slice (some ⟨5862,0,(some 1)⟩) 1 1,.slice (some ⟨120843,0,(some 260)⟩) 2 2]⟩,.int .i64 9]
def aUa:Value:=.tuple ⟨[.pointer (some ⟨130266,0,(some 0)⟩),j0]⟩
def aS5:Cp where
 f:=aAU
 args:=aU9
 h:=aU (aU (aU (aU (aN (aU (aD (aD (aD (aN (aD (aN (aD (aD (aD (aS (.cells ⟨[]⟩ 5))))))))))) (aU (aN (aN (aN (aN (aD (aD (aN (aD (aD (aS aTl)))))))))) (aU (aD (aN (aD (aN (aD (aD (aD (aS zW)))))))) (aN (aD (aD (aN (aD (aN (aD (aD (aS (.cells ⟨[]⟩ 5)))))))))))))) (aU (aU (aU (aN (aD (aD (aD (aN (aD (aN (aD (aD (aS (.cells ⟨[]⟩ 3))))))))))) (aD (aD (aN (aD (aN (aD (aD (aD (aS aEa)))))))))) (aD (aD (aU (aD (aD (aN (aD (aN (aD (aD (aS aQH)))))))) (aU (aD (aN (aD (aD (aD (aS (.cells ⟨[]⟩ 3))))))) (aD (aN (aD (aN (aD (aD (aS aQI)))))))))))) (aU (aD (aD (aU (aN (aD (aS kO2))) (aN (aD (aN (aD (aD (aD (aS aEb)))))))))) (aD (aD (aN (aD (aD (aN (aD (aN (aD (aD (aS aQJ)))))))))))))) (aU (aN (aD (aD (aD (aD (aN (aD (aN (aD (aD (aD (aS (.cells ⟨[]⟩ 3))))))))))))) (aU (aU (aN (aN (aN (aN (aN (aD (aD (aN (aD (aD (aS aSu))))))))))) (aN (aN (aD (aD (aD (aN (aS eN)))))))) (aD (aD (aN (aD (aD (aS kO0))))))))) (aU (aU (aD (aD (aD (aD (aD (aS eN)))))) (aU (aN (aN (aD (aN (aD (aD (aN (aD (aD (aD (aS eN))))))))))) (aN (aD (aD (aN (aD (aD (aN (aS oC)))))))))) (aU (aD (aU (aN (aN (aD (aD (aD (aN (aD (aN (aD (aD (aS eN))))))))))) (aD (aD (aD (aN (aD (aN (aD (aD (aD (aS gQ)))))))))))) (aD (aD (aD (aN (aD (aN (aN (aS oH))))))))))) (aU (aU (kTn (aD (aD (aD (aN (aN (aD (aD (aN (aD (aN (aD (aD (aS (.cells ⟨[]⟩ 3)))))))))))))) kO2 (aU (aN (aN (aD (aN (aD (aD (aN (aD (aD (aD (aS eN))))))))))) (aU (aN (aD (aN (aD (aS eN))))) (aN (aD (aD (aD (aD (aN (aD (aD (aD (aS eN))))))))))))) (aU (aU (aD (aD (aN (aN (aD (aD (aN (aD (aN (aD (aD (aS aQK)))))))))))) (aU (aD (aN (aN (aD (aD (aN (aD (aN (aD (aD (aS aQL))))))))))) (aD (aN (aN (aD (aD (aN (aD (aN (aD (aD (aS (.cells ⟨[]⟩ 3)))))))))))))) (aN (aU (aD (aN (aN (aD (aD (aN (aD (aN (aD (aD (aS (.cells ⟨[]⟩ 5)))))))))))) (aD (aD (aD (aN (aD (aN (aD (aN (aD (aD (aS zW))))))))))))))) (aU (aU (aU (aN (aN (aD (aN (aD (aD (aN (aD (aN (aD (aD (aS gQ)))))))))))) (aN (aD (aN (aN (aD (aD (aN (aD (aD (aD (aS (.cells ⟨[]⟩ 5))))))))))))) (aU (aD (aU (aD (aN (aD (aS kO3)))) (aN (aN (aD (aD (aN (aD (aD (aD (aS aEc))))))))))) (aU (aD (aN (aU (aD (aD (aN (aD (aD (aD (aS aEd))))))) (aD (aD (aN (aD (aD (aD (aS aEe)))))))))) (aD (aN (aN (aD (aD (aN (aD (aD (aD (aS (.cells ⟨[]⟩ 3)))))))))))))) (aN (aU (aD (aD (aD (aN (aD (aD (aN (aS gQ)))))))) (aN (aN (aN (aD (aD (aD (aN (aD (aN (aD (aD (aS eN))))))))))))))))
 nx:=120869
 v:=aUa
 h':=aU (aU (aU (aU (aN (aU (aD (aD (aD (aN (aD (aN (aD (aD (aD (aS (.cells ⟨[]⟩ 5))))))))))) (aU (aU (aN (aN (aN (aD (aD (aN (aD (aD (aS aTl))))))))) (aD (aN (aN (aN (aN (aD (aN (aN (aN (aS aUA))))))))))) (aU (aD (aN (aD (aN (aD (aD (aD (aS zW)))))))) (aN (aD (aD (aN (aD (aN (aD (aD (aS (.cells ⟨[]⟩ 5)))))))))))))) (aU (aU (aU (aN (aD (aD (aD (aN (aD (aN (aD (aD (aS (.cells ⟨[]⟩ 3))))))))))) (aD (aD (aN (aD (aN (aD (aD (aD (aS aEa)))))))))) (aU (aN (aD (aD (aD (aD (aN (aN (aN (aN (aN (aS aUB))))))))))) (aD (aU (aD (aD (aN (aD (aN (aD (aD (aS aQH)))))))) (aU (aD (aN (aD (aD (aD (aS (.cells ⟨[]⟩ 3))))))) (aD (aN (aD (aN (aD (aD (aS aQI)))))))))))) (aU (aD (aD (aU (aN (aD (aS kO2))) (aN (aD (aN (aD (aD (aD (aS aEb)))))))))) (aD (aD (aN (aD (aD (aN (aD (aN (aD (aD (aS aQJ)))))))))))))) (aU (aU (aU (aD (aN (aN (aD (aD (aD (aN (aN (aN (aN (aN (aS zW)))))))))))) (aD (aD (aD (aN (aD (aN (aD (aD (aD (aS (.cells ⟨[]⟩ 3)))))))))))) (aD (aN (aD (aD (aN (aN (aN (aN (aD (aN (aN (aN (aS aUC)))))))))))))) (aU (aU (aN (aN (aN (aN (aN (aD (aD (aN (aD (aD (aS aSu))))))))))) (aN (aN (aD (aD (aD (aN (aS eN)))))))) (aD (aU (aU (aD (aD (aD (aD (aN (aN (aN (aN (aN (aS aUD)))))))))) (aN (aN (aN (aN (aN (aD (aN (aN (aN (aS zW))))))))))) (aN (aD (aD (aS kO0))))))))) (aU (aU (aD (aD (aU (aD (aN (aD (aD (aD (aN (aN (aN (aN (aN (aS aUE))))))))))) (aD (aD (aS eN)))))) (aU (aU (aN (aD (aN (aD (aD (aN (aD (aD (aD (aS eN)))))))))) (aN (aN (aD (aN (aN (aN (aN (aD (aN (aN (aN (aS aUF))))))))))))) (aN (aD (aD (aN (aD (aD (aN (aS oC)))))))))) (aU (aD (aU (aN (aN (aD (aD (aD (aN (aD (aN (aD (aD (aS eN))))))))))) (aD (aD (aU (aN (aD (aD (aD (aD (aD (aD (aS gQ)))))))) (aN (aD (aN (aD (aD (aD (aS gQ)))))))))))) (aU (aD (aD (aD (aN (aN (aD (aD (aD (aD (aD (aD (aS oC)))))))))))) (aD (aD (aN (aD (aN (aN (aS oH))))))))))) (aU (aU (kTn (aD (aU (aN (aD (aD (aN (aN (aN (aN (aD (aN (aN (aN (aS (.cells ⟨[]⟩ 5))))))))))))) (aD (aU (aN (aD (aD (aN (aD (aN (aD (aD (aS (.cells ⟨[]⟩ 3)))))))))) (aN (aN (aN (aN (aN (aD (aN (aN (aN (aS aUG)))))))))))))) kO2 (aU (aU (aN (aD (aN (aD (aD (aN (aD (aD (aD (aS eN)))))))))) (aD (aD (aD (aN (aN (aN (aN (aD (aN (aN (aN (aS aUH))))))))))))) (aU (aN (aU (aD (aD (aD (aD (aN (aN (aN (aN (aN (aS (.cells ⟨[]⟩ 5))))))))))) (aN (aD (aS eN))))) (aU (aD (aD (aD (aD (aN (aD (aD (aD (aS eN))))))))) (aN (aN (aD (aD (aD (aN (aN (aN (aN (aN (aS aUI))))))))))))))) (aU (aU (aD (aD (aN (aN (aD (aD (aN (aD (aN (aD (aD (aS aQK)))))))))))) (aU (aD (aU (aU (aD (aD (aN (aD (aN (aD (aD (aS aQL)))))))) (aN (aN (aN (aN (aD (aN (aN (aN (aS eN)))))))))) (aN (aN (aN (aN (aN (aD (aN (aN (aN (aS (.cells ⟨[]⟩ 3))))))))))))) (aD (aN (aN (aD (aD (aN (aD (aN (aD (aD (aS (.cells ⟨[]⟩ 3)))))))))))))) (aU (aU (aD (aU (aN (aD (aD (aN (aD (aN (aD (aD (aS (.cells ⟨[]⟩ 5)))))))))) (aD (aN (aN (aN (aN (aD (aN (aN (aN (aS aUJ)))))))))))) (aD (aD (aD (aN (aD (aN (aD (aN (aD (aD (aS zW)))))))))))) (aN (aD (aU (aN (aD (aD (aD (aN (aN (aN (aN (aN (aS (.cells ⟨[]⟩ 3))))))))))) (aN (aD (aD (aD (aN (aN (aN (aN (aN (aS eN)))))))))))))))) (aU (aU (aU (aU (aN (aD (aN (aD (aD (aN (aD (aN (aD (aD (aS gQ))))))))))) (aN (aD (aN (aD (aD (aD (aN (aN (aN (aN (aN (aS (.cells ⟨[]⟩ 5)))))))))))))) (aU (aD (aU (aN (aD (aD (aN (aD (aD (aD (aS (.cells ⟨[]⟩ 5))))))))) (aN (aD (aD (aD (aN (aN (aN (aN (aN (aS (.cells ⟨[]⟩ 3))))))))))))) (aN (aN (aD (aD (aD (aD (aN (aN (aN (aN (aN (aS aUK)))))))))))))) (aU (aU (aD (aN (aD (aN (aN (aN (aN (aD (aN (aN (aN (aS (.cells ⟨[]⟩ 3))))))))))))) (aU (aD (aU (aD (aS kO3)) (aN (aN (aN (aN (aD (aN (aN (aN (aS aUL))))))))))) (aN (aN (aD (aD (aN (aD (aD (aD (aS aEc))))))))))) (aU (aU (aN (aD (aN (aN (aN (aN (aD (aN (aN (aN (aS (.cells ⟨[]⟩ 5)))))))))))) (aU (aU (aD (aD (aN (aD (aD (aD (aS aEd))))))) (aD (aD (aN (aD (aD (aD (aS aEe)))))))) (aN (aN (aD (aD (aD (aD (aD (aD (aS aUM))))))))))) (aD (aN (aN (aD (aD (aN (aD (aD (aD (aS (.cells ⟨[]⟩ 3)))))))))))))) (aU (aU (aD (aD (aU (aU (aD (aD (aD (aN (aN (aN (aN (aN (aS gQ))))))))) (aN (aN (aN (aN (aD (aN (aN (aN (aS aUN)))))))))) (aU (aD (aD (aN (aS gQ)))) (aN (aN (aN (aN (aD (aN (aN (aN (aS eN))))))))))))) (aN (aN (aN (aD (aD (aD (aN (aD (aN (aD (aD (aS eN))))))))))))) (aU (aD (aD (aU (aD (aD (aD (aD (aN (aN (aN (aN (aN (aS eN)))))))))) (aN (aD (aD (aD (aN (aN (aN (aN (aN (aS aUO))))))))))))) (aN (aD (aD (aN (aN (aN (aN (aN (aD (aN (aN (aN (aS gQ)))))))))))))))))
 nx':=139759
theorem aPk:wA Tryz.prog aS5:=xZ mY (l:=[wI,aPj]) (bV lC (bV aKg mS)) (k:=200) fun ro=>by kernel_rfl
end V
end Go.Proofs.YtcaccnneblghgaaGreat
namespace Go.Proofs.YtcaccnneblghgaaGreat
namespace V
set_option maxRecDepth 1000000 in
theorem aPE:Orc Tryz.prog yZ (.bool true):=aRu okZ okN okM mY (l:=[wI,aPj,aS5]) (bV lC (bV aKg (bV aPk mS))) (k:=200) rfl (by kernel_rfl) fun ro=>by kernel_rfl
theorem aSC {ro:Ro}{h:T Obj}{nx:Nat}{K:KV} (hK:K (.bool true) h nx):aO Tryz.prog ro yZ [] h nx K:=aO0 aPE hK
end V
end Go.Proofs.YtcaccnneblghgaaGreat
namespace Go.Proofs.YtcaccnneblghgaaGreat
namespace V
attribute [local irreducible] tP aO aB
end V
end Go.Proofs.YtcaccnneblghgaaGreat
namespace Go.Proofs.YtcaccnneblghgaaGreat
namespace V
attribute [local irreducible] aB bA aW dM eR gI dH
theorem aRv {ro:Ro}{h:T Obj}{v:Value}{ls:List (List Nat)} (hv:iO ro h v 1 (aN8 ro h) ls):iO ro h v 1 (RB ro h) ls∧(∀ b∈ls,b.length≤nJ)∧∀ b∈ls,∀ x∈b,x < 256:=by
 refine⟨hv.imp fun x d ⟨w,h1,h2,h3⟩=>⟨w,h1,(aS7 h2).1⟩,fun b hb=>?_,fun b hb=>?_⟩
 ·obtain⟨i,hi⟩:=List.getElem?_of_mem hb
  obtain⟨hl,rfl⟩:=List.getElem?_eq_some_iff.1 hi
  obtain⟨w,⟨w',_,_,h3⟩,_⟩:=hv.at1 hl
  exact h3
 ·obtain⟨i,hi⟩:=List.getElem?_of_mem hb
  obtain⟨hl,rfl⟩:=List.getElem?_eq_some_iff.1 hi
  obtain⟨w,⟨w',_,h2,_⟩,_⟩:=hv.at1 hl
  exact (aS7 h2).2
section
variable {T:TabD}
end
section
variable {ro:Ro}{h:T Obj}{nx:Nat}{K:KV}
end
end V
end Go.Proofs.YtcaccnneblghgaaGreat
namespace Go.Proofs.YtcaccnneblghgaaGreat
namespace V
attribute [local irreducible] tP aO aB
@[irreducible] def qN (ro:Ro) (K:KV):dL→T Obj→Nat→Prop:=fun e h nx=>∃ h54,aZ h54 h∧K (e 9) h54 (nx+2)
@[irreducible] def qO (ro:Ro) (Q:KE):dL→T Obj→Nat→Prop:=fun e h nx=>aB (aQ .add (e 15) (Value.int IntKind.i64 1)) fun a'=>Q .normal (puts e [(60,(e 15)),(61,a'),(15,a')]) h (nx+3)
@[irreducible] def mX (ro:Ro) (Q:KE):dL→T Obj→Nat→Prop:=fun e h nx=>aO Tryz.prog ro pU [(e 10)] h (nx+33) fun h' d' J'=>aB (bF (e 12)) fun i'=>aB (aT 9 i') fun e'=>aB (load1 ro d' e') fun j'=>(gZ e' h d')∧(aB (aQ .neq h' j') fun b'=>bA b' false d' J' (fun as'=>as' (e 10) d' J') fun k' l' K'=>bA b' false l' K' (fun at'=>aO Tryz.prog ro oZ [k'] l' K' fun au' av' aw'=>at' au' av' aw') fun m' n' L'=>bA b' false n' L' (fun ax'=>ax' (e 12) n' L') fun o' M' N'=>bA b' false M' N' (fun ay'=>aB (bF o') fun az'=>ay' az' M' N') fun p' O' P'=>bA b' false O' P' (fun aA'=>aB (aT 15 p') fun aB'=>aA' aB' O' P') fun f' q' Q'=>bA b' false q' Q' (fun aC'=>aB (load1 ro q' f') fun aD'=>(onP (some (b',false)) (gZ f' l' n'))∧(aC' aD' q' Q')) fun r' R' S'=>bA b' false R' S' (fun aE'=>aB (aQ .neq m' r') fun aF'=>aE' aF' R' S') fun s' T' U'=>aB (cS b' (Value.bool true) s') fun c'=>bA c' false T' U' (fun aG'=>aG' (e 10) T' U') fun t' V' W'=>bA c' false V' W' (fun aH'=>aO Tryz.prog ro pW [t'] V' W' fun aI' aJ' aK'=>aH' aI' aJ' aK') fun u' X' Y'=>bA c' false X' Y' (fun aL'=>aL' (e 12) X' Y') fun v' Z' aa'=>bA c' false Z' aa' (fun aM'=>aO Tryz.prog ro oX [v'] Z' aa' fun aN' aO' aP'=>aM' aN' aO' aP') fun w' ab' ac'=>bA c' false ab' ac' (fun aQ'=>aB (aQ .neq u' w') fun aR'=>aQ' aR' ab' ac') fun x' ad' ae'=>aB (cS c' (Value.bool true) x') fun a'=>bA a' false ad' ae' (fun aS'=>aS' (e 10) ad' ae') fun y' z' af'=>bA a' false z' af' (fun aT'=>aO Tryz.prog ro pV [y'] z' af' fun aU' aV' aW'=>aT' aU' aV' aW') fun A' B' ag'=>bA a' false B' ag' (fun aX'=>aX' (e 12) B' ag') fun C' ah' ai'=>bA a' false ah' ai' (fun aY'=>aB (bF C') fun aZ'=>aY' aZ' ah' ai') fun D' aj' ak'=>bA a' false aj' ak' (fun a0'=>aB (aT 6 D') fun a1'=>a0' a1' aj' ak') fun g' E' al'=>bA a' false E' al' (fun a2'=>aB (load1 ro E' g') fun a3'=>(onP (some (a',false)) (gZ g' z' B'))∧(a2' a3' E' al')) fun F' am' an'=>bA a' false am' an' (fun a4'=>aB (bS F') fun a5'=>a4' a5' am' an') fun G' ao' ap'=>bA a' false ao' ap' (fun a6'=>aB (aQ .neq A' G') fun a7'=>a6' a7' ao' ap') fun H' aq' ar'=>aB (cS a' (Value.bool true) H') fun I'=>aW I' (Q .ret (puts e [(123,(e 10)),(124,h'),(125,(e 12)),(126,i'),(127,e'),(128,j'),(129,b'),(130,b'),(131,k'),(132,m'),(133,o'),(134,p'),(135,f'),(136,r'),(137,s'),(138,c'),(139,c'),(140,t'),(141,u'),(142,v'),(143,w'),(144,x'),(145,a'),(146,a'),(147,y'),(148,A'),(149,C'),(150,D'),(151,g'),(152,F'),(153,G'),(154,H'),(155,I'),(8,(Value.bool false))]) aq' (ar'+1)) (qO ro Q (puts e [(123,(e 10)),(124,h'),(125,(e 12)),(126,i'),(127,e'),(128,j'),(129,b'),(130,b'),(131,k'),(132,m'),(133,o'),(134,p'),(135,f'),(136,r'),(137,s'),(138,c'),(139,c'),(140,t'),(141,u'),(142,v'),(143,w'),(144,x'),(145,a'),(146,a'),(147,y'),(148,A'),(149,C'),(150,D'),(151,g'),(152,F'),(153,G'),(154,H'),(155,I')]) aq' ar'))
@[irreducible] def mW (ro:Ro) (Q:KE):dL→T Obj→Nat→Prop:=fun e h nx=>aB (bS (e 14)) fun h'=>aB (aQ .lss (e 15) h') fun i'=>aW i' (aB (cQ 1 (e 14) (e 15)) fun j'=>aB (load1 ro h j') fun k'=>aO Tryz.prog ro jM [(e 10),k'] h (nx+10) fun d' s' B'=>aB (nth 0 d') fun b'=>aB (nth 1 d') fun f'=>aB (cQ 1 (e 14) (e 15)) fun l'=>aB (load1 ro s' l') fun m'=>aO Tryz.prog ro i8 [(e 12),m'] s' (B'+11) fun e' C' D'=>aB (nth 0 e') fun c'=>aB (nth 1 e') fun g'=>aO Tryz.prog ro vL [b',c'] C' (D'+8) fun n' t' u'=>aB (unV .not n') fun a'=>bA a' false t' (u'+2) (fun E'=>E' f' t' (u'+3)) fun o' v' w'=>bA a' false v' w' (fun F'=>F' g' v' (w'+1)) fun p' x' y'=>bA a' false x' y' (fun G'=>aB (aQ .neq o' p') fun H'=>G' H' x' (y'+1)) fun q' z' A'=>aB (cS a' (Value.bool true) q') fun r'=>aW r' (Q .ret (puts e [(92,(e 15)),(93,(e 14)),(94,h'),(95,i'),(97,(e 10)),(98,(e 14)),(99,(e 15)),(100,j'),(101,k'),(102,d'),(96,d'),(103,b'),(104,f'),(20,b'),(21,f'),(106,(e 12)),(107,(e 14)),(108,(e 15)),(109,l'),(110,m'),(111,e'),(105,e'),(112,c'),(113,g'),(22,c'),(23,g'),(114,b'),(115,c'),(116,n'),(117,a'),(118,a'),(119,o'),(120,p'),(121,q'),(122,r'),(8,(Value.bool false))]) z' (A'+2)) (mX ro Q (puts e [(92,(e 15)),(93,(e 14)),(94,h'),(95,i'),(97,(e 10)),(98,(e 14)),(99,(e 15)),(100,j'),(101,k'),(102,d'),(96,d'),(103,b'),(104,f'),(20,b'),(21,f'),(106,(e 12)),(107,(e 14)),(108,(e 15)),(109,l'),(110,m'),(111,e'),(105,e'),(112,c'),(113,g'),(22,c'),(23,g'),(114,b'),(115,c'),(116,n'),(117,a'),(118,a'),(119,o'),(120,p'),(121,q'),(122,r')]) z' (A'+1))) (mX ro Q (puts e [(92,(e 15)),(93,(e 14)),(94,h'),(95,i')]) h (nx+4))
@[irreducible] def mV (ro:Ro):PT:=fun e h nx Q=>aB (bS (e 14)) fun g'=>aB (aQ .leq (e 15) g') fun h'=>aW h' (aB (aQ .rem (e 3) (Value.int IntKind.u8 12)) fun k'=>aB (zP .i64 k') fun l'=>aB (aQ .eql (e 15) l') fun a'=>bA a' false h (nx+10) (fun M'=>M' (e 15) h (nx+11)) fun m' w' x'=>bA a' false w' x' (fun N'=>N' (e 14) w' (x'+1)) fun n' y' z'=>bA a' false y' z' (fun O'=>aB (bS n') fun P'=>O' P' y' (z'+1)) fun o' A' B'=>bA a' false A' B' (fun Q'=>aB (aQ .eql m' o') fun R'=>Q' R' A' (B'+1)) fun p' C' D'=>aB (cS a' (Value.bool true) p') fun q'=>aW q' (aO Tryz.prog ro jA [(e 10)] C' (D'+3) fun e' S' T'=>aB (nth 0 e') fun c'=>aB (nth 1 e') fun i'=>aO Tryz.prog ro iH [(e 12)] S' (T'+7) fun f' U' V'=>aB (nth 0 f') fun d'=>aB (nth 1 f') fun j'=>aO Tryz.prog ro vL [c',d'] U' (V'+8) fun r' E' F'=>aB (unV .not r') fun b'=>bA b' false E' (F'+2) (fun W'=>W' i' E' (F'+3)) fun s' G' H'=>bA b' false G' H' (fun X'=>X' j' G' (H'+1)) fun t' I' J'=>bA b' false I' J' (fun Y'=>aB (aQ .neq s' t') fun Z'=>Y' Z' I' (J'+1)) fun u' K' L'=>aB (cS b' (Value.bool true) u') fun v'=>aW v' (Q .ret (puts e [(56,(e 15)),(57,(e 14)),(58,g'),(59,h'),(62,(e 15)),(63,(e 3)),(64,k'),(65,l'),(66,a'),(67,a'),(68,m'),(69,n'),(70,o'),(71,p'),(72,q'),(74,(e 10)),(75,e'),(73,e'),(76,c'),(77,i'),(16,c'),(17,i'),(79,(e 12)),(80,f'),(78,f'),(81,d'),(82,j'),(18,d'),(19,j'),(83,c'),(84,d'),(85,r'),(86,b'),(87,b'),(88,s'),(89,t'),(90,u'),(91,v'),(8,(Value.bool false))]) K' (L'+2)) (mW ro Q (puts e [(56,(e 15)),(57,(e 14)),(58,g'),(59,h'),(62,(e 15)),(63,(e 3)),(64,k'),(65,l'),(66,a'),(67,a'),(68,m'),(69,n'),(70,o'),(71,p'),(72,q'),(74,(e 10)),(75,e'),(73,e'),(76,c'),(77,i'),(16,c'),(17,i'),(79,(e 12)),(80,f'),(78,f'),(81,d'),(82,j'),(18,d'),(19,j'),(83,c'),(84,d'),(85,r'),(86,b'),(87,b'),(88,s'),(89,t'),(90,u'),(91,v')]) K' (L'+1))) (mW ro Q (puts e [(56,(e 15)),(57,(e 14)),(58,g'),(59,h'),(62,(e 15)),(63,(e 3)),(64,k'),(65,l'),(66,a'),(67,a'),(68,m'),(69,n'),(70,o'),(71,p'),(72,q')]) C' (D'+1))) (Q (.exit 0) (puts e [(56,(e 15)),(57,(e 14)),(58,g'),(59,h')]) h (nx+4))
@[irreducible] def aAk (ro:Ro) (v0 v1 v2 v3:Value) (h:T Obj) (nx:Nat) (K:KV):Prop:=dM h nx (.cells (Value.cells v0) d4) fun h1=>aO Tryz.prog ro yZ [] h1 (nx+3) fun c' h3 n4=>aB (loadA ro h3 4 (ptr nx)) fun n'=>aO Tryz.prog ro aB0 [n'] h3 (n4+3) fun o' h7 n8=>aB (unV .not o') fun p'=>aW p' (∃ q',aZ q' h7∧K c' q' (n8+3)) (aB (loadA ro h7 4 (ptr nx)) fun r'=>aO Tryz.prog ro aAU [r',v1] h7 (n8+4) fun d' s' P'=>aB (nth 0 d') fun h'=>aB (nth 1 d') fun e'=>aB (loadA ro s' 4 (ptr nx)) fun t'=>aO Tryz.prog ro aB4 [t',v1] s' (P'+8) fun f' u' v'=>aB (nth 0 f') fun b'=>aB (nth 1 f') fun g'=>aB (aQ .neq e' g') fun a'=>bA a' false u' (v'+9) (fun Q'=>Q' h' u' (v'+10)) fun w' x' y'=>bA a' false x' y' (fun R'=>aB (xU .eql w' (Value.pointer none)) fun S'=>R' S' x' (y'+1)) fun z' A' B'=>bA a' false A' B' (fun T'=>T' b' A' (B'+1)) fun C' D' E'=>bA a' false D' E' (fun U'=>aB (xU .eql C' (Value.pointer none)) fun V'=>U' V' D' (E'+1)) fun F' G' H'=>bA a' false G' H' (fun W'=>aB (aGO .neq z' F') fun X'=>W' X' G' (H'+1)) fun I' i' j'=>aB (cS a' (Value.bool true) I') fun J'=>aW J' (∃ K',aZ K' i'∧K (Value.bool false) K' (j'+2)) (aB (xU .eql b' (Value.pointer none)) fun L'=>aW L' (∃ M',aZ M' i'∧K c' M' (j'+5)) (aO Tryz.prog ro yY [v2] i' (j'+5) fun N' Y' Z'=>dZ (mV ro) (puts (fT [v0,v1,v2,v3]) [(4,(ptr nx)),(8,(Value.bool false)),(24,c'),(9,c'),(25,n'),(26,o'),(27,p'),(30,r'),(31,v1),(32,d'),(29,d'),(33,h'),(34,e'),(10,h'),(11,e'),(36,t'),(37,v1),(38,f'),(35,f'),(39,b'),(40,g'),(12,b'),(13,g'),(41,e'),(42,g'),(43,a'),(44,a'),(45,w'),(46,z'),(47,C'),(48,F'),(49,I'),(50,J'),(51,b'),(52,L'),(54,v2),(55,N'),(14,N'),(15,(Value.int IntKind.i64 0))]) Y' (Z'+2) fun aa' k' l' m'=>gI aa' (qN ro K k' l' m') (fun ab'=>dH (Nat.beq ab' 0) (qN ro K k' l' m') (False)) (∃ O',aZ O' l'∧K (k' 8) O' m'))))
theorem aDU {ro:Ro}{v0 v1 v2 v3:Value}{h:T Obj}{nx:Nat}{K:KV} (hw:aAk ro v0 v1 v2 v3 h nx K):aO Tryz.prog ro yC [v0,v1,v2,v3] h nx K:=zzO (fn:=Tryz.f7) hw
end V
end Go.Proofs.YtcaccnneblghgaaGreat
namespace Go.Proofs.YtcaccnneblghgaaGreat
namespace V
attribute [local irreducible] aB bA aW dM eR gI dH
theorem aLb:xU .eql (.pointer none) (.pointer none)=some (.bool true):=rfl
section
variable {ro:Ro}{h:V.T Obj}{nx:Nat}{X:List Nat}{pa pw:Nat}{qa qw:List oI}{T:TabD}{most er_:Int}{xv:Value}{xs:List (List Nat)}{s:ScD}{Q:KE}{e:dL}{i:Nat}{c:Nat}
theorem aQe (hib:i≤1000) (e15:e 15=.int .i64 i)
  (hQ:∀ e' nx',nx≤nx'→e' 3=e 3→e' 9=e 9→e' 10=e 10→e' 12=e 12→e' 14=e 14→e' 15=.int .i64 ((i:Int)+1)→Q .normal e' h nx'):qO ro Q e h nx:=by
 unfold qO
 rw[e15]
 (repeat refine zzC ?_)
 exact hQ _ _ (by omega) rfl rfl rfl rfl rfl rfl
theorem aL8 (hi:PI ro X pa qa pw qw T most er_ xv xs h nx s) (hT:TabR T) (hTl:T.entries.length≤1000) (hst:s.steps≤90000) (hib:i≤1000) (e10:e 10=ptr pa) (e12:e 12=ptr pw) (e15:e 15=.int .i64 i)
  (hQ:∀ e' nx',nx≤nx'→e' 3=e 3→e' 9=e 9→e' 10=e 10→e' 12=e 12→e' 14=e 14→e' 15=.int .i64 ((i:Int)+1)→Q .normal e' h nx'):mX ro Q e h nx:=by
 obtain⟨cv,kv,tv,ev,mv,bv,ah,hv⟩:=id hi.w
 have gw:=hv.g
 have l9:=aV (ro:=ro) (z:=0) gw (show (iQ cv kv tv ev mv most bv ah s er_)[9]?=some (.int .i64 (s.cond:Int)) from rfl)
 have l15:=aV (ro:=ro) (z:=0) gw (show (iQ cv kv tv ev mv most bv ah s er_)[15]?=some (.int .i64 (s.steps:Int)) from rfl)
 have l6:=aV (ro:=ro) (z:=0) gw (show (iQ cv kv tv ev mv most bv ah s er_)[6]?=some bv from rfl)
 have hbl:=hv.b.len
 rw[dJ] at hbl
 unfold mX
 rw[e10,e12]
 refine aMF hi.a fun n1 hn1=>?_
 (have zz:=@aR;repeat refine zzCz ?_)
 refine aA l9 ⟨eL gw gw,?_⟩
 (repeat refine zzC ?_)
 refine aKI hi.a fun n2 hn2=>?_
 (have zz:=@aR;repeat refine zzCz ?_)
 refine aA l15 ⟨fun _=>eL gw gw,?_⟩
 (repeat refine zzC ?_)
 refine aMK hi.a hT hi.ii hTl hst fun n3 hn3=>?_
 (repeat refine zzC ?_)
 refine aKB hi.w hT hi.ii hTl hst fun n4 hn4=>?_
 (repeat refine zzC ?_)
 refine aMH hi.a fun n5 hn5=>?_
 (have zz:=@aR;repeat refine zzCz ?_)
 refine aA l6 ⟨fun _=>eL gw gw,?_⟩
 (repeat refine zzC ?_)
 refine aA hbl ?_
 (repeat refine zzC ?_)
 exact aQe (i:=i) hib e15 fun e' nx' q0 q1 q2 q3 q4 q5 q6=>hQ e' nx' (by omega) q1 q2 q3 q4 q5 q6
theorem aL7 (hi:PI ro X pa qa pw qw T most er_ xv xs h nx s) (hT:TabR T) (hTl:T.entries.length≤1000) (hxb:∀ b∈xs,∀ x∈b,x < 256) (hfl:xs.flatten.length≤240) (hlen:xs.length≤12) (hle:s.at_+s.kept.length≤(xs.take i).flatten.length) (hib:i≤12) (e10:e 10=ptr pa) (e12:e 12=ptr pw) (e14:e 14=xv) (e15:e 15=.int .i64 i)
  (hQ:∀ e' h' nx' X' qw' er' s',nx≤nx'→PI ro X' pa qa pw qw' T most er' xv xs h' nx' s'→s'.at_+s'.kept.length≤(xs.take (i+1)).flatten.length→e' 3=e 3→e' 9=e 9→e' 10=e 10→e' 12=e 12→e' 14=e 14→e' 15=.int .i64 ((i:Int)+1)→Q .normal e' h' nx'):mW ro Q e h nx:=by
 have hstp:∀ {s:ScD},ScI T s→s.at_+s.kept.length≤240→s.steps≤90000:=fun {s} h1 h2=>by
  have:=aH2 h1
  have:(s.at_+s.kept.length)*(s.at_+s.kept.length+1)≤240*241:=Nat.mul_le_mul h2 (by omega)
  omega
 have hfi:=rQ (ls:=xs) i
 have hfi1:=rQ (ls:=xs) (i+1)
 have hxl:=hi.x.len
 unfold mW
 rw[e10,e12,e14,e15]
 refine aA hxl ?_
 refine dS (fun hk=>?_) (fun hk=>?_)
 ·have hk:i < xs.length:=by omega
  have hfs:=aE7 hk
  have hfl1:=congrArg List.length hfs
  rw[List.length_append] at hfl1
  obtain⟨w9,⟨bv,hw,hbv⟩,hld⟩:=hi.x.at1 hk
  cases hw
  have hb2:=hxb _ (List.getElem_mem hk)
  have hix:=hi.x.ix .i64 hk
  generalize xs[i]=b at hfl1 hbv hb2
  have hfk:=aR1 hT hi.ii (most:=most) hi.er2 hb2
  obtain⟨k1,k2,k3,k4⟩:=hfk
  (repeat refine zzC ?_)
  refine aA hix (aA (nO (cX h X) hld) ?_)
  refine fdA hi.a hT hi.ii hTl (fun k hk=>by have:=hi.xl k hk; omega) (hbv.sub (cX h X)) hb2 (by omega) (hi.frr.mono (by omega)) fun ra h2 n2 hn2 hf2 hk2 ha2 hoa=>?_
  refine aA (aGs _ _) (aA (aGt _ _) ?_)
  have hD2:aZ (del h X) (del h2 X):=hk2.del (fun k hk=>(hi.a.own k hk).1) fun k hk=>.inl hk
  refine aA hix (aA (nO (hD2.trans (cX h2 X)) hld) ?_)
  refine fdW (hi.w2 hk2) hi.er2 hT hi.ii hTl (fun k hk=>by have:=hi.xl k hk; omega) (hbv.sub (hD2.trans (cX h2 X))) hb2 (by omega) (hf2.mono (by omega)) fun rb h3 n3 X3 qw3 hl3 hob=>?_
  refine aA (aGs _ _) (aA (aGt _ _) ?_)
  have hoa3:=hoa.keepK hl3.1.kp fun id hid hm9=>by
   have:=(hoa.blk hid).1
   have:=hi.xl id ((hi.w.own id hm9).1)
   omega
  have hi3:=hi.go hk2 (hf2.mono (Nat.le_add_right n2 11)) (by omega) ha2 hl3 k1 k2
  have hn3:=hl3.1.le
  generalize (fdS T most er_ s b).2.2.1=s3 at *
  generalize (fdS T most er_ s b).2.2.2=er3 at *
  generalize (fdS T most er_ s b).2.1=g3 at *
  generalize (fdS T most er_ s b).1=toks at *
  refine aEO (by omega) (by omega) hoa3.sl hob.sl fun n4 hn4=>?_
  rw[decide_eq_true (rfl:toks=toks)]
  (repeat refine zzC ?_)
  exact aL8 (hi3.mono (by omega)) hT hTl (hstp k1 (by omega)) (i:=i) (by omega) e10 e12 e15 fun e' nx' q0 q1 q2 q3 q4 q5 q6=>hQ e' _ nx' _ _ _ _ (by omega) (hi3.mono (by omega)) (by omega) q1 q2 q3 q4 q5 q6
 ·have hte:xs.take (i+1)=xs:=List.take_of_length_le (by omega)
  (repeat refine zzC ?_)
  exact aL8 (hi.mono (by omega)) hT hTl (hstp hi.ii (by omega)) (i:=i) (by omega) e10 e12 e15 fun e' nx' q0 q1 q2 q3 q4 q5 q6=>hQ e' _ nx' _ _ _ _ (by omega) (hi.mono (by omega)) (by rw[hte]; omega) q1 q2 q3 q4 q5 q6
theorem aQd (hi:PI ro X pa qa pw qw T most er_ xv xs h nx s) (hT:TabR T) (hTl:T.entries.length≤1000) (hxb:∀ b∈xs,∀ x∈b,x < 256) (hfl:xs.flatten.length≤240) (hlen:xs.length≤12) (hle:s.at_+s.kept.length≤(xs.take i).flatten.length) (hib:i≤xs.length) (hc:c < 256) (e3:e 3=.int .u8 c) (e10:e 10=ptr pa) (e12:e 12=ptr pw) (e14:e 14=xv) (e15:e 15=.int .i64 i)
  (hQ:∀ e' h' nx' X' qw' er' s',nx≤nx'→PI ro X' pa qa pw qw' T most er' xv xs h' nx' s'→s'.at_+s'.kept.length≤(xs.take (i+1)).flatten.length→e' 3=e 3→e' 9=e 9→e' 10=e 10→e' 12=e 12→e' 14=e 14→e' 15=.int .i64 ((i:Int)+1)→Q .normal e' h' nx'):mV ro e h nx Q:=by
 have hfi:=rQ (ls:=xs) i
 have hxl:=hi.x.len
 unfold mV
 rw[e3,e10,e12,e14,e15]
 refine aA hxl ?_
 (repeat refine zzC ?_)
 by_cases hor:i=c % 12∨i=xs.length
 ·obtain⟨k1,k2,k3,k4⟩:=aRS hT hi.ii hi.er2
  by_cases h1:i=c % 12 <;>
  ·(repeat refine zzC ?_)
   (first | (refine aA hxl ?_; (repeat refine zzC ?_)) | skip)
   refine clA hi.a hT hi.ii hTl (by omega) (hi.frr.mono (by omega)) fun ra h2 n2 hn2 hf2 hk2 ha2 hoa=>?_
   refine aA (aGs _ _) (aA (aGt _ _) ?_)
   refine clW (hi.w2 hk2) hi.er2 hT hi.ii hTl (by omega) (fun k hk=>by have:=hi.xl k hk; omega) (hf2.mono (by omega)) fun rb h3 n3 X3 qw3 hl3 hob=>?_
   refine aA (aGs _ _) (aA (aGt _ _) ?_)
   have hoa3:=hoa.keepK hl3.1.kp fun id hid hm9=>by
    have:=(hoa.blk hid).1
    have:=hi.xl id ((hi.w.own id hm9).1)
    omega
   have hi3:=hi.go hk2 (hf2.mono (Nat.le_add_right n2 7)) (by omega) ha2 hl3 k1 k2
   have hn3:=hl3.1.le
   generalize (clS T er_ s).2.2.1=s3 at *
   generalize (clS T er_ s).2.2.2=er3 at *
   generalize (clS T er_ s).2.1=g3 at *
   generalize (clS T er_ s).1=toks at *
   refine aEO (by omega) (by omega) hoa3.sl hob.sl fun n4 hn4=>?_
   rw[decide_eq_true (rfl:toks=toks)]
   (repeat refine zzC ?_)
   exact aL7 (hi3.mono (by omega)) hT hTl hxb hfl hlen (by omega) (by omega) e10 e12 e14 e15 fun e' h' nx' X' qw' er' s' q0 q1 q2 q3 q4 q5 q6 q7 q8=>hQ e' h' nx' X' qw' er' s' (by omega) q1 q2 q3 q4 q5 q6 q7 q8
 ·have h1:i≠c % 12:=fun h9=>hor (.inl h9)
  have h2:i≠xs.length:=fun h9=>hor (.inr h9)
  (repeat refine zzC ?_)
  refine aA hxl ?_
  (repeat refine zzC ?_)
  exact aL7 (hi.mono (by omega)) hT hTl hxb hfl hlen hle (by omega) e10 e12 e14 e15 fun e' h' nx' X' qw' er' s' q0 q1 q2 q3 q4 q5 q6 q7 q8=>hQ e' h' nx' X' qw' er' s' (by omega) q1 q2 q3 q4 q5 q6 q7 q8
end
section
variable {ro:Ro}{h:T Obj}{nx:Nat}{K:KV}
set_option maxRecDepth 8000 in
set_option maxHeartbeats 4000000 in
theorem aDw {x:List Value}{Tb:TabD}{most:Int}{v:Value}{ls:List (List Nat)}{c:Nat} (hf:Fr h nx) (hd:aE2 ro h x Tb) (hv0:iO ro h v 1 (aN8 ro h) ls) (hl:ls.length≤nJ) (hc:c < 256) (hK:∀ h' nx',K (.bool true) h' nx'):aO Tryz.prog ro yC [.agg x.toArray,.int .i64 most,v,.int .u8 (c:Int)] h nx K:=by
 obtain⟨cv,kv,tv,ev,rfl,_⟩:=id hd
 obtain⟨hv,hlb,hb256⟩:=aRv hv0
 apply aDU
 unfold aAk
 refine eZ hf (Nat.le_refl _) fun h1 hs1 hf1 g1 _=>?_
 have g1:h1.get nx=some (.cells [cv,kv,tv,ev].toArray d4):=g1
 refine aSC ?_
 have hd1:=hd.sub hs1
 have hv1:=hv.sub hs1 (RB.sub hs1)
 refine aA (dW g1 rfl) ?_
 refine aLG (hf1.mono (by omega)) hd1 fun n2 hn2=>?_
 cases hfew:aKs Tb with
 | false =>
  (repeat refine zzC ?_)
  exact⟨h1,aZ.refl _,hK _ _⟩
 | true =>
  (repeat refine zzC ?_)
  refine aA (dW g1 rfl) ?_
  by_cases hbad:most < 1∨gC Tb=false
  ·refine aHX (X0:=[]) (hf1.mono (by omega)) hd1 (fun b hb=>by cases hb) (fun _ n5 hn5=>?_) fun h9 h8=>by rcases hbad with h7 | h7<;>first | omega | (rw[h8] at h7; cases h7)
   refine aA (aGs _ _) (aA (aGt _ _) (aA (dW g1 rfl) ?_))
   refine aF3 (X0:=[]) (hf1.mono (by omega)) (hd1.sub fun k o hk=>jL hk (by simp)) (fun b hb=>by cases hb) (fun _ n6 hn6=>?_) fun h9 h8=>by rcases hbad with h7 | h7<;>first | omega | (rw[h8] at h7; cases h7)
   refine aA (aGs _ _) (aA (aGt _ _) ?_)
   (have zz:=@aLb;repeat refine zzCz ?_)
   refine aG ?_
   (have zz:=@aLb;repeat refine zzCz ?_)
   exact⟨h1,aZ.refl _,hK _ _⟩
  ·have hm1:1≤most:=by omega
   have hr:gC Tb=true:=by
    cases h9:gC Tb with
    | true=>rfl
    | false=>exact absurd (.inr h9) hbad
   have hT:=hd.right hr
   obtain⟨_,_,_,hTl,_⟩:=aEm hr
   refine aHX (X0:=[]) (hf1.mono (by omega)) hd1 (fun b hb=>by cases hb) (fun h9=>absurd h9 hbad) fun _ _ pa qa h5 n5 hn5 hf5 hs5 howna hsa=>?_
   rw[List.nil_append] at hsa
   have hg5:=hs5 _ _ g1
   refine aA (aGs _ _) (aA (aGt _ _) (aA (dW hg5 rfl) ?_))
   have hD5:aZ h1 (del h5 (iB pa qa)):=fun k o hk=>jL (hs5 _ _ hk) fun h9=>by
    have:=hf1.lt' hk
    have:=(howna k h9).1
    omega
   refine aF3 (X0:=iB pa qa) (hf5.mono (by omega)) (hd1.sub hD5) (fun b hb=>by have:=(howna b hb).2; omega) (fun h9=>absurd h9 hbad) fun _ _ pw qw h6 n6 hn6 hf6 hs6 hownw hsw=>?_
   refine aA (aGs _ _) (aA (aGt _ _) ?_)
   have hX:∀ k∈iB pa qa++iB pw qw,nx+1≤k∧k < n6:=fun k hk=>by
    rcases List.mem_append.1 hk with hk | hk
    ·have:=howna k hk; omega
    ·have:=hownw k hk; omega
   have hdis:∀ k∈iB pa qa,k ∉ iB pw qw:=fun k hk hk2=>by
    have:=(howna k hk).2
    have:=(hownw k hk2).1
    omega
   have hsa:ScX ro h6 (iB pa qa++iB pw qw) pa qa Tb most 0 (nK Tb):=hsa.sub hs6 (fun k hk=>by
    rcases List.mem_append.1 hk with hk | hk
    ·exact .inl hk
    ·exact .inr (hf5 k (by have:=(hownw k hk).1; omega))) fun k hk=>List.mem_append_left _ hk
   generalize iB pa qa++iB pw qw=X at *
   have hD6:aZ h1 (del h6 X):=fun k o hk=>jL (hs6 _ _ (hs5 _ _ hk)) fun h9=>by
    have:=hf1.lt' hk
    have:=(hX k h9).1
    omega
   (have zz:=@aJd;repeat refine zzCz ?_)
   refine aG ?_
   (have zz:=@aJd;repeat refine zzCz ?_)
   refine aHw (X:=X) (hv1.sub hD6 (RB.sub hD6)) hl hlb (fun k hk=>by have:=(hX k hk).2; omega) (hf6.mono (by omega)) fun r7 h7 n7 hn7 hf7 hs7 hr7=>?_
   have hpb:=aQb hb256
   have hpf:=aND ls
   have hpl:(qP ls).length≤12:=by rw[aDX]; omega
   generalize qP ls=ps at *
   have hi0:PI ro X pa qa pw qw Tb most 0 r7 ps h7 n7 (nK Tb):=⟨hsa.sub hs7 (fun k hk=>.inl hk) fun k hk=>hk,hsw.sub hs7,hr7,aTp hT,.inl rfl,hdis,fun k hk=>by have:=(hX k hk).2; omega,hf7⟩
   refine bM (fun j e h' nx'=>∃ (i:Nat) (X':List Nat) (qw':List oI) (er':Int) (s:ScD),i+j=ps.length+1∧PI ro X' pa qa pw qw' Tb most er' r7 ps h' nx' s∧s.at_+s.kept.length≤(ps.take i).flatten.length∧e 3=.int .u8 (c:Int)∧e 9=.bool true∧e 10=ptr pa∧e 12=ptr pw∧e 14=r7∧e 15=.int .i64 (i:Int)) ?_ (n:=ps.length+1) ⟨0,X,qw,0,nK Tb,by omega,hi0.mono (by omega),Nat.zero_le _,rfl,rfl,rfl,rfl,rfl,rfl⟩
   rintro j e h' nx' ⟨i,X',qw',er',s,hj,hi,hle,e3,e9,e10,e12,e14,e15⟩ Q' hq hx
   by_cases hk:i≤ps.length
   ·exact aQd hi hT (by omega) hpb hpf hpl hle hk hc e3 e10 e12 e14 e15 fun e' h8 n8 X8 qw8 er8 s8 q0 q1 q2 q3 q4 q5 q6 q7 q8=>hq (j - 1) _ _ _ _ (by omega) ⟨i+1,X8,qw8,er8,s8,by omega,q1,q2,q3.trans e3,q4.trans e9,q5.trans e10,q6.trans e12,q7.trans e14,q8⟩ (aZ.refl _)
   ·unfold mV
    rw[e14,e15]
    refine aA hi.x.len ?_
    (repeat refine zzC ?_)
    refine hx _ _ _ _ (fun e=>by cases e) (eE (dG ?_))
    unfold qN
    exact⟨_,aZ.refl _,by
     show K (e 9) _ _
     rw[e9]
     exact hK _ _⟩
end
end V
end Go.Proofs.YtcaccnneblghgaaGreat
set_option maxRecDepth 16000
namespace Go.Proofs.YtcaccnneblghgaaGreat
namespace V
open Go.ChangeShapes Go.WideShapes Go.ChangeAt Go.RowKit
theorem aEt (os:Os) (started:os.Started) (H:Type) (enc:TypeId × Value→H) :
  ReturnsInHanded {} Tryz.checked os 7 .any (Rows.scanPlaysSpec.pre6 enc Tryz.prog Tryz.f7 Rows.scanPlaysRow.domain false) (Rows.scanPlaysSpec.post enc Tryz.prog Tryz.f7 false true false false):=by
 refine returnsInHanded_of_change_sized (C:=Tryz.checked) aTr started (by kernel_rfl) (by kernel_rfl)
  (ChangeSpec.witness6 (enc:=enc) (C:=Tryz.checked) false ⟨#[],#[.agg #[.slice none 0 0,.slice none 0 0,.slice none 0 0,.slice none 0 0],.int .i64 0,.slice none 0 0,.int .u8 0],[]⟩ 8 (by kernel_rfl) (by kernel_rfl) (by kernel_rfl) (by kernel_rfl)) ?_
 intro W base args ds gs before hval hW _ _ _
 have hW':=hW
 obtain⟨p,q,hA0,hV,rfl,hfz,hnd⟩:=hW
 have hA:DataW.TrodAll enc Tryz.prog W 0 (fun _=>true) true [d4,dY,iA,cI] args.toList ds p:=hA0
 obtain⟨v0,v1,v2,v3,d0,d1,d2,d3,p0,p1,p2,p3,rfl,rfl,rfl,h0,h1,h2,h3⟩:=trodAll_four hA
 obtain⟨rfl,rfl⟩:=trodVars_none hV
 obtain⟨w0,t0,a0,hd0⟩:=aQ9 h0 (hval 0 d4 v0 rfl rfl)
 obtain⟨x1,a1⟩:=aQ8 h1 (hval 1 dY v1 rfl rfl)
 obtain⟨w2,l2,a2,hl2,hn2⟩:=aMx h2 (hval 2 iA v2 rfl rfl)
 obtain⟨b3,hb3,a3⟩:=aRr h3 (hval 3 cI v3 rfl rfl)
 have hsay:aTb Tryz.prog W 7 [.agg w0.toArray,.int .i64 x1,w2,.int .u8 (b3:Int)]:=aDw Fr.e hd0 hl2 hn2 hb3 fun _ _=>rfl
 refine (aNW okZ okN okM (args:=#[v0,v1,v2,v3]) (.cons a0 (.cons a1 (.cons a2 (.cons a3 .nil)))) hsay).mono fun e W' ⟨he,hb⟩=>?_
 subst he
 exact⟨_,rfl,aQN (tb:=jK) aTI (by kernel_rfl) (by kernel_rfl) (by kernel_rfl) rfl hW' hb rfl⟩
end V
theorem scanPlays_holds:Rows.ScanPlaysSaid :=
 OpenClaim.holds_of_wide 7 Tryz.f7 rfl rfl rfl rfl rfl rfl rfl ⟨rfl,rfl,rfl,rfl,rfl⟩ rfl rfl rfl rfl rfl (by kernel_rfl) (by kernel_rfl) (by kernel_rfl)
  (of_decide_eq_true (by kernel_rfl)) (by unfold Func.isWrapper; rw[if_neg (of_decide_eq_false (by kernel_rfl))]; exact⟨rfl,rfl⟩)
  (fun os started H enc _=>V.aEt os started H enc)
end Go.Proofs.YtcaccnneblghgaaGreat