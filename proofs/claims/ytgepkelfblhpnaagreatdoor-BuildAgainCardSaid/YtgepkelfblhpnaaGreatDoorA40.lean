/- A part of the proof of BuildAgain: no condition of its own. Whence: AmOk, AmPut. -/
import Derived.Test.YtgepkelfblhpnaaGreatDoorRows
import Derived.Test.YtgepkelfblhpnaaGreatDoorA14
import Derived.Test.YtgepkelfblhpnaaGreatDoorA20
import Derived.Test.YtgepkelfblhpnaaGreatDoorA17
import Derived.Test.YtgepkelfblhpnaaGreatDoorA36
set_option linter.all false
namespace Am
open Go Go.Proofs
def gtab:Nat→Option (List D):=fun g=>if g = 0 then some [.int .i64 0,.str []] else none
theorem funOk_of {P:Program} {gt:Nat→Option (List D)} {f:FuncId} {hf:HFun} {fn:Func} (h1:P.funcs[f]? = some fn)
    (h:(fn.body.bind (cCode P gt),fn.name == "runtime.NumGoroutine", fn.results.toList.mapM (cRes P),hf.code.dstOk fn.ntmps) = (some hf.code.strip,false,some hf.res,true)):FunOk P gt f hf:=by
  simp only [Prod.mk.injEq] at h
  obtain ⟨h2,h3,h4,h5⟩:=h
  cases hb:fn.body with
  | none=>rw [hb] at h2;cases h2
  | some c=>
    rw [hb] at h2
    exact ⟨fn,c,h1,hb,by simpa using h3,h2,h4,h5⟩
theorem ok4:FunOk Tryz.prog gtab 4 ⟨c4,[.slot 4],[],.shut⟩:=funOk_of Tryz.func4 (by kernel_rfl)
theorem ok7:FunOk Tryz.prog gtab 7 ⟨c7,[.slot 0],[],.shut⟩:=funOk_of Tryz.func7 (by kernel_rfl)
theorem ok8:FunOk Tryz.prog gtab 8 ⟨c8,[.cell 4 13 true,.cell 5 3 true],[],.shut⟩:=funOk_of Tryz.func8 (by kernel_rfl)
theorem ok10:FunOk Tryz.prog gtab 10 ⟨c10,[.slot 4],[],.shut⟩:=funOk_of Tryz.func10 (by kernel_rfl)
theorem ok11:FunOk Tryz.prog gtab 11 ⟨c11,[.cell 2 5 true,.slot 3,.slot 4],[],.shut⟩:=funOk_of Tryz.func11 (by kernel_rfl)
theorem ok12:FunOk Tryz.prog gtab 12 ⟨c12,[.slot 2,.slot 3],[],.shut⟩:=funOk_of Tryz.func12 (by kernel_rfl)
theorem ok16:FunOk Tryz.prog gtab 16 ⟨c16,[.slot 2,.slot 3],[],.shut⟩:=funOk_of Tryz.func16 (by kernel_rfl)
theorem ok18:FunOk Tryz.prog gtab 18 ⟨c18,[.slot 2],[],.shut⟩:=funOk_of Tryz.func18 (by kernel_rfl)
theorem ok19:FunOk Tryz.prog gtab 19 ⟨c19,[.cell 4 18 true,.cell 5 3 true],[],.shut⟩:=funOk_of Tryz.func19 (by kernel_rfl)
theorem ok22:FunOk Tryz.prog gtab 22 ⟨c22,[.slot 4],[],.shut⟩:=funOk_of Tryz.func22 (by kernel_rfl)
theorem ok23:FunOk Tryz.prog gtab 23 ⟨c23,[.slot 4],[],.shut⟩:=funOk_of Tryz.func23 (by kernel_rfl)
theorem ok24:FunOk Tryz.prog gtab 24 ⟨c24,[.slot 2,.slot 3,.slot 4],[],.shut⟩:=funOk_of Tryz.func24 (by kernel_rfl)
theorem ok25:FunOk Tryz.prog gtab 25 ⟨c25,[.cell 2 5 true],[],.half⟩:=funOk_of Tryz.func25 (by kernel_rfl)
theorem ok26:FunOk Tryz.prog gtab 26 ⟨c26,[.slot 4],[],.shut⟩:=funOk_of Tryz.func26 (by kernel_rfl)
theorem ok27:FunOk Tryz.prog gtab 27 ⟨c27,[.slot 4],[],.shut⟩:=funOk_of Tryz.func27 (by kernel_rfl)
theorem ok28:FunOk Tryz.prog gtab 28 ⟨c28,[.cell 2 10 true],[],.shut⟩:=funOk_of Tryz.func28 (by kernel_rfl)
theorem ok29:FunOk Tryz.prog gtab 29 ⟨c29,[.slot 2],[],.shut⟩:=funOk_of Tryz.func29 (by kernel_rfl)
theorem ok30:FunOk Tryz.prog gtab 30 ⟨c30,[.slot 2],[],.shut⟩:=funOk_of Tryz.func30 (by kernel_rfl)
theorem ok31:FunOk Tryz.prog gtab 31 ⟨c31,[.slot 2],[],.shut⟩:=funOk_of Tryz.func31 (by kernel_rfl)
theorem ok32:FunOk Tryz.prog gtab 32 ⟨c32,[.slot 2],[],.shut⟩:=funOk_of Tryz.func32 (by kernel_rfl)
theorem ok33:FunOk Tryz.prog gtab 33 ⟨c33,[.slot 2],[],.shut⟩:=funOk_of Tryz.func33 (by kernel_rfl)
theorem ok35:FunOk Tryz.prog gtab 35 ⟨c35,[.cell 4 2 true,.slot 5,.slot 6],[],.shut⟩:=funOk_of Tryz.func35 (by kernel_rfl)
theorem ok41:FunOk Tryz.prog gtab 41 ⟨c41,[.slot 2,.slot 3],[],.shut⟩:=funOk_of Tryz.func41 (by kernel_rfl)
theorem ok43:FunOk Tryz.prog gtab 43 ⟨c43,[.slot 6],[],.shut⟩:=funOk_of Tryz.func43 (by kernel_rfl)
theorem ok44:FunOk Tryz.prog gtab 44 ⟨c44,[.cell 2 5 true],[],.shut⟩:=funOk_of Tryz.func44 (by kernel_rfl)
theorem ok45:FunOk Tryz.prog gtab 45 ⟨c45,[.cell 4 13 true,.cell 5 3 true],[],.shut⟩:=funOk_of Tryz.func45 (by kernel_rfl)
theorem ok58:FunOk Tryz.prog gtab 58 ⟨c58,[.slot 2],[],.shut⟩:=funOk_of Tryz.func58 (by kernel_rfl)
theorem ok59:FunOk Tryz.prog gtab 59 ⟨c59,[.cell 2 4 true,.slot 3],[],.shut⟩:=funOk_of Tryz.func59 (by kernel_rfl)
theorem ok60:FunOk Tryz.prog gtab 60 ⟨c60,[],[],.shut⟩:=funOk_of Tryz.func60 (by kernel_rfl)
theorem ok61:FunOk Tryz.prog gtab 61 ⟨c61,[.slot 2],[],.shut⟩:=funOk_of Tryz.func61 (by kernel_rfl)
theorem ok62:FunOk Tryz.prog gtab 62 ⟨c62,[.slot 2],[],.shut⟩:=funOk_of Tryz.func62 (by kernel_rfl)
theorem ok63:FunOk Tryz.prog gtab 63 ⟨c63,[.cell 2 4 true],[],.shut⟩:=funOk_of Tryz.func63 (by kernel_rfl)
theorem ok64:FunOk Tryz.prog gtab 64 ⟨c64,[.slot 4],[],.shut⟩:=funOk_of Tryz.func64 (by kernel_rfl)
theorem ok65:FunOk Tryz.prog gtab 65 ⟨c65,[.cell 2 4 true,.slot 3],[],.shut⟩:=funOk_of Tryz.func65 (by kernel_rfl)
theorem ok66:FunOk Tryz.prog gtab 66 ⟨c66,[.cell 2 4 true],[],.shut⟩:=funOk_of Tryz.func66 (by kernel_rfl)
theorem ok67:FunOk Tryz.prog gtab 67 ⟨c67,[.slot 4],[],.shut⟩:=funOk_of Tryz.func67 (by kernel_rfl)
theorem ok68:FunOk Tryz.prog gtab 68 ⟨c68,[.slot 2],[],.shut⟩:=funOk_of Tryz.func68 (by kernel_rfl)
theorem ok69:FunOk Tryz.prog gtab 69 ⟨c69,[.slot 2],[],.shut⟩:=funOk_of Tryz.func69 (by kernel_rfl)
theorem ok70:FunOk Tryz.prog gtab 70 ⟨c70,[.slot 2],[],.shut⟩:=funOk_of Tryz.func70 (by kernel_rfl)
theorem ok71:FunOk Tryz.prog gtab 71 ⟨c71,[.slot 4],[],.shut⟩:=funOk_of Tryz.func71 (by kernel_rfl)
theorem ok72:FunOk Tryz.prog gtab 72 ⟨c72,[.slot 2],[],.shut⟩:=funOk_of Tryz.func72 (by kernel_rfl)
theorem ok73:FunOk Tryz.prog gtab 73 ⟨c73,[.slot 4],[],.shut⟩:=funOk_of Tryz.func73 (by kernel_rfl)
theorem ok74:FunOk Tryz.prog gtab 74 ⟨c74,[.slot 2],[],.shut⟩:=funOk_of Tryz.func74 (by kernel_rfl)
theorem ok75:FunOk Tryz.prog gtab 75 ⟨c75,[.slot 2],[],.shut⟩:=funOk_of Tryz.func75 (by kernel_rfl)
theorem ok76:FunOk Tryz.prog gtab 76 ⟨c76,[.slot 2],[],.shut⟩:=funOk_of Tryz.func76 (by kernel_rfl)
theorem ok79:FunOk Tryz.prog gtab 79 ⟨c79,[.slot 2],[],.shut⟩:=funOk_of Tryz.func79 (by kernel_rfl)
theorem ok80:FunOk Tryz.prog gtab 80 ⟨c80,[.slot 8],[],.shut⟩:=funOk_of Tryz.func80 (by kernel_rfl)
theorem ok98:FunOk Tryz.prog gtab 98 ⟨c98,[],[],.shut⟩:=funOk_of Tryz.func98 (by kernel_rfl)
theorem ok99:FunOk Tryz.prog gtab 99 ⟨c99,[.slot 6,.slot 7],[],.shut⟩:=funOk_of Tryz.func99 (by kernel_rfl)
theorem ok100:FunOk Tryz.prog gtab 100 ⟨c100,[],[],.shut⟩:=funOk_of Tryz.func100 (by kernel_rfl)
theorem ok101:FunOk Tryz.prog gtab 101 ⟨c101,[.slot 4,.slot 5],[],.shut⟩:=funOk_of Tryz.func101 (by kernel_rfl)
theorem ok102:FunOk Tryz.prog gtab 102 ⟨c102,[.slot 2],[],.shut⟩:=funOk_of Tryz.func102 (by kernel_rfl)
theorem ok103:FunOk Tryz.prog gtab 103 ⟨c103,[.slot 2],[],.shut⟩:=funOk_of Tryz.func103 (by kernel_rfl)
theorem ok104:FunOk Tryz.prog gtab 104 ⟨c104,[.slot 2,.slot 3],[],.shut⟩:=funOk_of Tryz.func104 (by kernel_rfl)
theorem ok112:FunOk Tryz.prog gtab 112 ⟨c112,[.slot 2,.cell 3 5 true,.cell 4 3 true],[],.shut⟩:=funOk_of Tryz.func112 (by kernel_rfl)
theorem ok113:FunOk Tryz.prog gtab 113 ⟨c113,[.slot 2,.cell 3 3 true],[],.shut⟩:=funOk_of Tryz.func113 (by kernel_rfl)
theorem ok130:FunOk Tryz.prog gtab 130 ⟨c130,[.slot 4],[],.shut⟩:=funOk_of Tryz.func130 (by kernel_rfl)
theorem ok131:FunOk Tryz.prog gtab 131 ⟨c131,[.slot 2],[],.shut⟩:=funOk_of Tryz.func131 (by kernel_rfl)
theorem ok132:FunOk Tryz.prog gtab 132 ⟨c132,[.slot 2],[],.shut⟩:=funOk_of Tryz.func132 (by kernel_rfl)
theorem ok133:FunOk Tryz.prog gtab 133 ⟨c133,[.slot 2],[],.shut⟩:=funOk_of Tryz.func133 (by kernel_rfl)
theorem ok134:FunOk Tryz.prog gtab 134 ⟨c134,[.slot 2],[],.shut⟩:=funOk_of Tryz.func134 (by kernel_rfl)
theorem ok135:FunOk Tryz.prog gtab 135 ⟨c135,[.slot 2],[],.shut⟩:=funOk_of Tryz.func135 (by kernel_rfl)
theorem ok136:FunOk Tryz.prog gtab 136 ⟨c136,[.slot 2],[],.shut⟩:=funOk_of Tryz.func136 (by kernel_rfl)
theorem ok137:FunOk Tryz.prog gtab 137 ⟨c137,[.slot 2,.slot 3],[],.shut⟩:=funOk_of Tryz.func137 (by kernel_rfl)
theorem ok138:FunOk Tryz.prog gtab 138 ⟨c138,[.slot 2],[],.shut⟩:=funOk_of Tryz.func138 (by kernel_rfl)
theorem ok139:FunOk Tryz.prog gtab 139 ⟨c139,[.cell 4 4 true],[],.shut⟩:=funOk_of Tryz.func139 (by kernel_rfl)
theorem ok140:FunOk Tryz.prog gtab 140 ⟨c140,[.cell 2 4 true],[],.shut⟩:=funOk_of Tryz.func140 (by kernel_rfl)
theorem ok141:FunOk Tryz.prog gtab 141 ⟨c141,[.cell 2 4 true,.slot 3],[],.shut⟩:=funOk_of Tryz.func141 (by kernel_rfl)
theorem ok142:FunOk Tryz.prog gtab 142 ⟨c142,[.cell 4 4 true],[],.shut⟩:=funOk_of Tryz.func142 (by kernel_rfl)
theorem ok143:FunOk Tryz.prog gtab 143 ⟨c143,[.slot 2,.slot 3,.slot 4,.slot 5,.slot 6],[],.shut⟩:=funOk_of Tryz.func143 (by kernel_rfl)
theorem ok150:FunOk Tryz.prog gtab 150 ⟨c150,[.slot 4],[],.shut⟩:=funOk_of Tryz.func150 (by kernel_rfl)
theorem ok151:FunOk Tryz.prog gtab 151 ⟨c151,[.slot 2],[],.shut⟩:=funOk_of Tryz.func151 (by kernel_rfl)
theorem ok152:FunOk Tryz.prog gtab 152 ⟨c152,[.cell 4 3 true],[],.shut⟩:=funOk_of Tryz.func152 (by kernel_rfl)
theorem ok153:FunOk Tryz.prog gtab 153 ⟨c153,[.slot 8],[],.shut⟩:=funOk_of Tryz.func153 (by kernel_rfl)
theorem ok163:FunOk Tryz.prog gtab 163 ⟨c163,[.slot 2,.slot 3],[],.shut⟩:=funOk_of Tryz.func163 (by kernel_rfl)
theorem ok165:FunOk Tryz.prog gtab 165 ⟨c165,[.slot 2,.cell 3 3 true],[],.shut⟩:=funOk_of Tryz.func165 (by kernel_rfl)
theorem ok166:FunOk Tryz.prog gtab 166 ⟨c166,[.slot 4],[],.shut⟩:=funOk_of Tryz.func166 (by kernel_rfl)
theorem ok167:FunOk Tryz.prog gtab 167 ⟨c167,[.slot 2],[],.shut⟩:=funOk_of Tryz.func167 (by kernel_rfl)
theorem ok168:FunOk Tryz.prog gtab 168 ⟨c168,[.slot 4],[],.shut⟩:=funOk_of Tryz.func168 (by kernel_rfl)
theorem ok169:FunOk Tryz.prog gtab 169 ⟨c169,[.slot 6],[],.shut⟩:=funOk_of Tryz.func169 (by kernel_rfl)
theorem ok170:FunOk Tryz.prog gtab 170 ⟨c170,[.slot 6],[],.shut⟩:=funOk_of Tryz.func170 (by kernel_rfl)
theorem ok171:FunOk Tryz.prog gtab 171 ⟨c171,[.slot 2,.cell 3 3 true],[],.shut⟩:=funOk_of Tryz.func171 (by kernel_rfl)
theorem ok192:FunOk Tryz.prog gtab 192 ⟨c192,[.cell 2 4 true],[],.shut⟩:=funOk_of Tryz.func192 (by kernel_rfl)
theorem ok193:FunOk Tryz.prog gtab 193 ⟨c193,[.slot 4],[],.shut⟩:=funOk_of Tryz.func193 (by kernel_rfl)
theorem ok194:FunOk Tryz.prog gtab 194 ⟨c194,[.slot 2],[],.shut⟩:=funOk_of Tryz.func194 (by kernel_rfl)
theorem ok195:FunOk Tryz.prog gtab 195 ⟨c195,[.slot 2],[],.shut⟩:=funOk_of Tryz.func195 (by kernel_rfl)
theorem ok200:FunOk Tryz.prog gtab 200 ⟨c200,[.slot 2],[],.shut⟩:=funOk_of Tryz.func200 (by kernel_rfl)
theorem ok201:FunOk Tryz.prog gtab 201 ⟨c201,[.slot 2],[],.shut⟩:=funOk_of Tryz.func201 (by kernel_rfl)
theorem ok208:FunOk Tryz.prog gtab 208 ⟨c208,[.slot 2,.cell 3 3 true],[],.shut⟩:=funOk_of Tryz.func208 (by kernel_rfl)
theorem ok209:FunOk Tryz.prog gtab 209 ⟨c209,[.slot 2],[],.shut⟩:=funOk_of Tryz.func209 (by kernel_rfl)
theorem ok210:FunOk Tryz.prog gtab 210 ⟨c210,[.slot 5],[],.shut⟩:=funOk_of Tryz.func210 (by kernel_rfl)
theorem ok211:FunOk Tryz.prog gtab 211 ⟨c211,[.slot 6],[],.shut⟩:=funOk_of Tryz.func211 (by kernel_rfl)
theorem ok212:FunOk Tryz.prog gtab 212 ⟨c212,[.cell 2 3 true],[],.shut⟩:=funOk_of Tryz.func212 (by kernel_rfl)
theorem ok213:FunOk Tryz.prog gtab 213 ⟨c213,[.slot 2],[],.shut⟩:=funOk_of Tryz.func213 (by kernel_rfl)
theorem ok214:FunOk Tryz.prog gtab 214 ⟨c214,[.slot 4],[],.shut⟩:=funOk_of Tryz.func214 (by kernel_rfl)
theorem ok229:FunOk Tryz.prog gtab 229 ⟨c229,[.cell 2 4 true],[],.shut⟩:=funOk_of Tryz.func229 (by kernel_rfl)
theorem ok238:FunOk Tryz.prog gtab 238 ⟨c238,[.cell 2 3 true],[],.shut⟩:=funOk_of Tryz.func238 (by kernel_rfl)
theorem ok239:FunOk Tryz.prog gtab 239 ⟨c239,[],[],.shut⟩:=funOk_of Tryz.func239 (by kernel_rfl)
theorem ok240:FunOk Tryz.prog gtab 240 ⟨c240,[.slot 2],[],.shut⟩:=funOk_of Tryz.func240 (by kernel_rfl)
theorem ok241:FunOk Tryz.prog gtab 241 ⟨c241,[],[],.shut⟩:=funOk_of Tryz.func241 (by kernel_rfl)
theorem ok242:FunOk Tryz.prog gtab 242 ⟨c242,[.cell 2 3 true],[],.shut⟩:=funOk_of Tryz.func242 (by kernel_rfl)
theorem ok243:FunOk Tryz.prog gtab 243 ⟨c243,[.slot 4],[],.shut⟩:=funOk_of Tryz.func243 (by kernel_rfl)
theorem ok244:FunOk Tryz.prog gtab 244 ⟨c244,[.cell 4 4 true,.slot 5],[],.shut⟩:=funOk_of Tryz.func244 (by kernel_rfl)
theorem ok245:FunOk Tryz.prog gtab 245 ⟨c245,[.slot 6],[],.shut⟩:=funOk_of Tryz.func245 (by kernel_rfl)
theorem ok246:FunOk Tryz.prog gtab 246 ⟨c246,[.slot 2],[],.keepTip⟩:=funOk_of Tryz.func246 (by kernel_rfl)
theorem ok253:FunOk Tryz.prog gtab 253 ⟨c253,[.cell 2 4 true],[],.shut⟩:=funOk_of Tryz.func253 (by kernel_rfl)
theorem ok254:FunOk Tryz.prog gtab 254 ⟨c254,[.slot 2],[],.shut⟩:=funOk_of Tryz.func254 (by kernel_rfl)
theorem ok255:FunOk Tryz.prog gtab 255 ⟨c255,[.slot 4,.slot 5],[],.shut⟩:=funOk_of Tryz.func255 (by kernel_rfl)
theorem ok257:FunOk Tryz.prog gtab 257 ⟨c257,[.slot 2,.cell 3 3 true],[],.shut⟩:=funOk_of Tryz.func257 (by kernel_rfl)
theorem ok258:FunOk Tryz.prog gtab 258 ⟨c258,[.slot 4],[],.shut⟩:=funOk_of Tryz.func258 (by kernel_rfl)
theorem ok259:FunOk Tryz.prog gtab 259 ⟨c259,[.slot 4],[],.shut⟩:=funOk_of Tryz.func259 (by kernel_rfl)
theorem ok260:FunOk Tryz.prog gtab 260 ⟨c260,[.slot 8],[],.shut⟩:=funOk_of Tryz.func260 (by kernel_rfl)
theorem ok261:FunOk Tryz.prog gtab 261 ⟨c261,[.slot 6],[],.shut⟩:=funOk_of Tryz.func261 (by kernel_rfl)
theorem ok262:FunOk Tryz.prog gtab 262 ⟨c262,[.slot 6],[],.shut⟩:=funOk_of Tryz.func262 (by kernel_rfl)
theorem ok263:FunOk Tryz.prog gtab 263 ⟨c263,[.slot 4],[],.shut⟩:=funOk_of Tryz.func263 (by kernel_rfl)
theorem ok264:FunOk Tryz.prog gtab 264 ⟨c264,[],[],.shut⟩:=funOk_of Tryz.func264 (by kernel_rfl)
theorem ok269:FunOk Tryz.prog gtab 269 ⟨c269,[.slot 4,.slot 5],[],.shut⟩:=funOk_of Tryz.func269 (by kernel_rfl)
theorem ok270:FunOk Tryz.prog gtab 270 ⟨c270,[.slot 4,.slot 5],[],.shut⟩:=funOk_of Tryz.func270 (by kernel_rfl)
theorem ok271:FunOk Tryz.prog gtab 271 ⟨c271,[.slot 4,.slot 5],[],.shut⟩:=funOk_of Tryz.func271 (by kernel_rfl)
set_option maxRecDepth 10000 in
theorem ok_all:∀ f hf,prg.funs f = some hf→FunOk Tryz.prog gtab f hf:=fun _ _ h=>look_all (P:=FunOk Tryz.prog gtab) (l:=tab) (by
  simp only [tab,List.forall_mem_cons]
  exact ⟨ok4,ok7,ok8,ok10,ok11,ok12,ok16,ok18,ok19,ok22,ok23,ok24,ok25,ok26,ok27,ok28,ok29,ok30,ok31,ok32,ok33,ok35,ok41,ok43,ok44,ok45,ok58,ok59,ok60,ok61,ok62,ok63,ok64,ok65,ok66,ok67,ok68,ok69,ok70,ok71,ok72,ok73,ok74,ok75,ok76,ok79,ok80,ok98,ok99,ok100,ok101,ok102,ok103,ok104,ok112,ok113,ok130,ok131,ok132,ok133,ok134,ok135,ok136,ok137,ok138,ok139,ok140,ok141,ok142,ok143,ok150,ok151,ok152,ok153,ok163,ok165,ok166,ok167,ok168,ok169,ok170,ok171,ok192,ok193,ok194,ok195,ok200,ok201,ok208,ok209,ok210,ok211,ok212,ok213,ok214,ok229,ok238,ok239,ok240,ok241,ok242,ok243,ok244,ok245,ok246,ok253,ok254,ok255,ok257,ok258,ok259,ok260,ok261,ok262,ok263,ok264,ok269,ok270,ok271,fun _ h=>by cases h⟩) h
end Am
namespace Am
open Go Go.Proofs C
set_option maxRecDepth 20000
theorem hy_end {g:Hg} {t:List (Nat × Value)} {q:List (Nat × Nat)} {e:Env} {H H1 H':St} {L L1:Lay} {w w1:World} {a:Act} (hg:g = ⟨g.P,g.gt,g.N,{ H with low:=none },L,w⟩) (S:Sim g.gt H L w) {fn:Func} {hrs:List HRes} (hres:fn.results.toList.mapM (cRes g.P) = some hrs)
    (hy:HY g t q e H1 L1 w1 a) {us:List HV} {pol:RetPol} {r:HV} (hvs:results e H1 hrs = some us) (hf:finish pol H us H1 = (r,H')) (ho:H'.objs = H.objs) (ht:H'.tips = H.tips) :
    a.defers = [] ∧ ∃ v,(Go.results fn a.tmps).run g.P w1 = .ok v w1 ∧ ∃ L',Ext H.objs.length L H.tips w L' H.tips w1 ∧ Sim g.gt H L' w1 ∧ VRel L' H.tips w1 r v ∧ ∃ xs,VRels L1 H1.tips w1 us xs ∧ v = oneOrTupV xs:=by
  obtain ⟨v,xs,q1,q2,q3⟩:=results_ok hy.S hy.R hres hvs
  have hE:=hy.E
  have hK:=hy.K
  rw [hg] at hE hK
  obtain ⟨L',q4,q5,q6⟩:=finish_sound S hK hE hy.S q2 hf
  rw [← q3] at q6
  rw [ht] at q4 q6
  exact ⟨hy.D,v,q1,L',q4,q5.congr ho.symm ht.symm,q6,xs,q2,q3⟩
def extZ (gt:Nat→Option (List D)) (H:St) (L:Lay) (w:World) (r:HV):Ending→World→Prop:=
  fun e w'=>∃ v L',e = .returned v ∧ Ext H.objs.length L H.tips w L' H.tips w' ∧ Sim gt H L' w' ∧ VRel L' H.tips w' r v
def endQ (g:Hg) (fn:Func) (Z:Ending→World→Prop):Exit→Act→World→Prop:=
  fun ex a' w'=>(ex = .normal ∨ ex = .ret) ∧ a'.defers = [] ∧ ∃ v,(Go.results fn a'.tmps).run g.P w' = .ok v w' ∧ Z (.returned v) w'
theorem hk_end {g:Hg} {t:List (Nat × Value)} {q:List (Nat × Nat)} {e:Env} {H H1 H':St} {L:Lay} {w:World} (hg:g = ⟨g.P,g.gt,g.N,{ H with low:=none },L,w⟩) (S:Sim g.gt H L w) {fn:Func} {hrs:List HRes} (hres:fn.results.toList.mapM (cRes g.P) = some hrs)
    {us:List HV} {r:HV} (pol:RetPol) (hvs:results e H1 hrs = some us) (hf:finish pol H us H1 = (r,H')) (ho:H'.objs = H.objs) (ht:H'.tips = H.tips) :
    HK g t q (endQ g fn (extZ g.gt H L w r) .ret) e H1:=fun L1 w1 a hy=>by
  obtain ⟨h1,v,h2,L',h3,h4,h5,_⟩:=hy_end hg S hres hy hvs hf ho ht
  exact ⟨.inr rfl,h1,v,h2,v,L',rfl,h3,h4,h5⟩
theorem putX_inv {args:List HV} {H:St} {r:HV} (h:putX args H = some r):∃ (b:HV) (w n:Int) (rows:List (List D)),args = [b,.d (.int .i64 w),.d (.int .u64 n)] ∧ shut b = .d (.sl rows) ∧ rows.all isU8 = true ∧ rows.length ≤ 1000000 ∧ 0 ≤ n ∧ n < 18446744073709551616 ∧ r = putR rows w n:=by
  unfold putX at h
  split at h
  · rename_i b w n
    split at h
    · rename_i rows hb
      split at h
      · rename_i hc
        simp only [Option.some.injEq] at h
        exact ⟨b,w,n,rows,rfl,hb,hc.1,hc.2.1,hc.2.2.1,hc.2.2.2,h.symm⟩
      · cases h
    · cases h
  · cases h
theorem hk_in {g:Hg} {t:List (Nat × Value)} {q:List (Nat × Nat)} {e:Env} {H:St} {Q:Exit→Act→World→Prop} {id:Nat} (h:HK g t q (Q .normal) e H):HK g t q (Exit.inBlock id Q (.exit id)) e H:=by
  simpa only [Exit.inBlock,HK,if_true] using h
theorem hk_in0 {g:Hg} {t:List (Nat × Value)} {q:List (Nat × Nat)} {e:Env} {H:St} {Q:Exit→Act→World→Prop} {id:Nat} (h:HK g t q (Q .normal) e H):HK g t q (Exit.inBlock id Q .normal) e H:=h
theorem splice_len {c vs:List HV} {i:Nat} (h:i + vs.length ≤ c.length):(splice c i vs).length = c.length:=by simp [splice];omega
theorem splice_take {c vs:List HV} {i:Nat} (h:i + vs.length ≤ c.length):(splice c i vs).take (i + vs.length) = c.take i ++ vs:=by
  unfold splice
  rw [List.take_append_of_le_length (by simp;omega),List.take_of_length_le (by simp;omega)]
theorem set_last {B:List Obj} {T:List Nat} {lw:Option Nat} {x y:Obj}:(⟨B ++ [x],T,lw⟩:St).setObj B.length y = ⟨B ++ [y],T,lw⟩:=by simp [St.setObj]
theorem cRes_slot {P:Program} {r:ResultVar} {k:Nat} (h:cRes P r = some (.slot k)):r = .tmp k:=by
  cases r with
  | tmp t=>simp only [cRes,Option.some.injEq,HRes.slot.injEq] at h;rw [h]
  | cell a t=>simp only [cRes] at h;split at h <;> cases h
theorem results_two {P:Program} {fn:Func} {i j:Nat} (h:fn.results.toList.mapM (cRes P) = some [.slot i,.slot j]) (ts:Array Value) (w:World):(Go.results fn ts).run P w = .ok (.tuple #[ts.getD i undef,ts.getD j undef]) w:=by
  obtain ⟨hl,hk⟩:=mapM_len h
  have h2:fn.results.toList.length = 2:=by simpa using hl.symm
  obtain ⟨r1,r2,hr⟩:∃ r1 r2,fn.results.toList = [r1,r2]:=by
    match fn.results.toList,h2 with
    | [a,b],_=>exact ⟨a,b,rfl⟩
  obtain ⟨y1,e1,f1⟩:=hk 0 r1 (by rw [hr];rfl)
  obtain ⟨y2,e2,f2⟩:=hk 1 r2 (by rw [hr];rfl)
  simp only [List.getElem?_cons_zero,List.getElem?_cons_succ,Option.some.injEq] at e1 e2
  subst e1 e2
  rw [cRes_slot f1,cRes_slot f2] at hr
  have hfr:fn.results = #[.tmp i,.tmp j]:=by apply Array.ext';rw [hr]
  have e:Go.results fn ts = (do
    let vs ← fn.results.mapM (readRes ⟨ts,[]⟩)
    pure (if h:vs.size = 1 then vs[0] else .tuple vs)):=rfl
  rw [e,Array.mapM_eq_mapM_toList,hfr]
  simp [readRes]
theorem toDs_dcells (l:List D):toDs (dcells l) = some l:=by
  induction l with
  | nil=>rfl
  | cons x l ih=>
    show (match HV.toD (.d x),toDs (dcells l) with | some x,some xs=>some (x :: xs) | _,_=>none) = _
    rw [ih];rfl
theorem chunks_flat:∀ (l:List (List D)),(∀ r ∈ l,r.length = 1)→chunks 1 l.length l.flatten = l
  | [],_=>rfl
  | r :: l,h=>by
    have h1:=h r (by simp)
    obtain ⟨x,rfl⟩:=List.length_eq_one_iff.1 h1
    simp only [List.length_cons,List.flatten_cons,List.singleton_append,chunks,List.take_succ_cons,List.take_zero,List.drop_succ_cons,List.drop_zero]
    rw [chunks_flat l fun r hr=>h r (by simp [hr])]
theorem isU8_len {r:List D} (h:isU8 r = true):r.length = 1:=by
  unfold isU8 at h
  split at h
  · rfl
  · cases h
theorem u8rows_len (w n:Nat):(u8rows w n).length = w:=by simp [u8rows]
theorem u8rows_one (w n:Nat):∀ r ∈ u8rows w n,r.length = 1:=fun r hr=>by
  simp only [u8rows,List.mem_map] at hr
  obtain ⟨i,_,rfl⟩:=hr
  rfl
theorem u8rows_succ (w n:Nat):u8rows (w + 1) n = u8rows w n ++ [[.int .u8 ((n / 256 ^ w % 256:Nat):Int)]]:=by simp [u8rows,List.range_succ]
def c99t:HC:=
  .seq (R [v 26 0,o 27 (.len .i (s 26)),v 28 0,o 29 (.len .i (s 28)),v 30 1,o 31 (.bin .add (s 29) (s 30)),o 32 (.makeSlice 1 [.d (.int .u8 0)] (s 27) (s 31)),v 8 32] [0,1,2,8])
  (.seq (R [v 33 8,v 34 0,o 35 (.copy 1 (s 33) (s 34))] [1,2,8])
  (.seq (.seq (R [v 36 1,c 37 (.d (.int .i64 0))] [2,8,36,37])
  (.block 0 [8] (.loop [2,8,36,37] c99l0)))
  (.seq (R [v 50 8,v 6 50,c 7 (.d (.int .i64 0))] [6,7])
  (.ret))))
theorem shr_pow {m j:Nat} (hj:j < 9):(m:Int).fdiv (2 ^ min (8 * j) 64) = ((m / 256 ^ j:Nat):Int):=by
  have e1:min (8 * j) 64 = 8 * j:=by omega
  have e2:((2:Int) ^ (8 * j)) = ((256 ^ j:Nat):Int):=by
    rw [Int.pow_mul]
    simp
  rw [e1,e2,Int.fdiv_eq_ediv_of_nonneg _ (Int.natCast_nonneg _)]
  rfl
theorem wrap_u8 (m:Nat):IntKind.u8.wrap (m:Int) = ((m % 256:Nat):Int):=by
  show (if (false && decide ((m:Int) % 256 ≥ 128)) = true then (m:Int) % 256 - 256 else (m:Int) % 256) = _
  simp only [Bool.false_and,Bool.false_eq_true,if_false]
  omega
theorem put_rounds {g:Hg} {Q:Exit→Act→World→Prop} {B:List Obj} {T:List Nat} {rows:List (List D)} {m k b:Nat} (hk:k ≤ 8) (hlen:rows.length ≤ 1000000) (h1:∀ r ∈ rows,r.length = 1)
    (hexit:∀ (c:List HV) (x:HV),c.length = (rows.length + k) * 1→c.take ((rows.length + k) * 1) = dcells (rows ++ u8rows k m).flatten →
      HK g [(8,Value.slice (some ⟨b,0,none⟩) (rows.length + k) (rows.length + k))] [(B.length,b)] (Q (.exit 0)) [(2,.d (.int .u64 m)),(8,.row B.length 0 (rows.length + k) 1),(36,.d (.int .i64 k)),(37,.d (.int .i64 k)),(38,x)] ⟨B ++ [.cells c],T,none⟩) :
    ∀ (d j:Nat),k - j = d→j ≤ k→∀ c:List HV,c.length = (rows.length + k) * 1→c.take ((rows.length + j) * 1) = dcells (rows ++ u8rows j m).flatten →
      HR g (d + 1) c99l0 Q [(8,Value.slice (some ⟨b,0,none⟩) (rows.length + j) (rows.length + k))] [(B.length,b)] [(2,.d (.int .u64 m)),(8,.row B.length 0 (rows.length + j) 1),(36,.d (.int .i64 k)),(37,.d (.int .i64 j))] ⟨B ++ [.cells c],T,none⟩:=by
  intro d
  induction d with
  | zero=>
    intro j hd hj c hc ht
    obtain rfl:j = k:=by omega
    refine hr_succ ?_
    unfold c99l0
    refine hg_seq (hg_am rfl ?_)
    simp only [go_sem]
    refine hk_next (hg_seq (hg_cond (b:=decide ((j:Int) < (j:Int))) rfl ?_))
    rw [if_neg (by simp)]
    exact hg_exit (hexit c _ hc ht)
  | succ d ih=>
    intro j hd hj c hc ht
    have hlt:j < k:=by omega
    refine hr_succ ?_
    unfold c99l0
    refine hg_seq (hg_am rfl ?_)
    simp only [go_sem]
    refine hk_next (hg_seq (hg_cond (b:=decide ((j:Int) < (k:Int))) rfl ?_))
    rw [if_pos (by simpa using hlt)]
    refine hg_skip (hk_next (hg_seq (hg_block (hg_seq (hg_am rfl ?_)))))
    simp only [go_sem]
    refine hk_next (hg_region fun ops ro=>?_)
    refine hw_mv ro 0 9 (d:=40) (s:=8) (V:=Value.slice (some ⟨b,0,none⟩) (rows.length + j) (rows.length + k)) (t':=[(40,Value.slice (some ⟨b,0,none⟩) (rows.length + j) (rows.length + k))]) rfl (by simp) rfl (by simp) ?_
    refine hw_am ro 1 7 2 rfl rfl ?_
    have hu:IntKind.u64.wrap (j:Int) = (j:Int):=by
      show (if (false && decide ((j:Int) % 18446744073709551616 ≥ 9223372036854775808)) = true then (j:Int) % 18446744073709551616 - 18446744073709551616 else (j:Int) % 18446744073709551616) = _
      simp only [Bool.false_and,Bool.false_eq_true,if_false]
      omega
    have hu8:IntKind.u64.wrap (8 * (j:Int)) = ((8 * j:Nat):Int):=by
      show (if (false && decide ((8 * (j:Int)) % 18446744073709551616 ≥ 9223372036854775808)) = true then (8 * (j:Int)) % 18446744073709551616 - 18446744073709551616 else (8 * (j:Int)) % 18446744073709551616) = _
      simp only [Bool.false_and,Bool.false_eq_true,if_false]
      omega
    have hsp:=shr_pow (m:=m) (j:=j) (by omega)
    simp only [go_sem,List.drop_succ_cons,List.drop_zero,List.take_succ_cons,List.take_zero,hu,hu8,hsp,wrap_u8]
    have hfit:(rows.length + j) * 1 + (dcells [[D.int .u8 ((m / 256 ^ j % 256:Nat):Int)]].flatten).length ≤ c.length:=by rw [hc];simp [dcells];omega
    refine hw_append ro 8 1 (d:=48) (x:=40) (y:=47) (o:=B.length) (b:=b) (n:=rows.length + j) (cap:=rows.length + k) (sz:=1) (c:=c) (ds:=(rows ++ u8rows j m).flatten) (ys:=[[.int .u8 ((m / 256 ^ j % 256:Nat):Int)]])
      rfl (by simp) (by simp) (by simp) hc (by omega) ht rfl rfl (by simp;omega) (fun hle=>?_) (fun hgt=>absurd hgt (by simp;omega))
    rw [set_last]
    simp only [List.length_cons,List.length_nil,Nat.zero_add]
    have hsl:=splice_len hfit
    have hst:=splice_take hfit
    generalize splice c ((rows.length + j) * 1) (dcells [[D.int .u8 ((m / 256 ^ j % 256:Nat):Int)]].flatten) = c' at hsl hst ⊢
    refine hw_mv ro 9 0 (d:=8) (s:=48) (V:=Value.slice (some ⟨b,0,none⟩) (rows.length + j + 1) (rows.length + k)) (t':=[(8,Value.slice (some ⟨b,0,none⟩) (rows.length + j + 1) (rows.length + k))]) rfl (by simp) rfl (by simp) ?_
    refine hw_end (hk_restrict [2,8,36,37] ?_)
    simp only [go_sem]
    refine hk_in0 (hk_next (hg_am rfl ?_))
    have hwj:IntKind.i64.wrap ((j:Int) + 1) = ((j + 1:Nat):Int):=by rw [wrap64 (by omega) (by omega)];omega
    simp only [go_sem,hwj]
    refine hk_round (ih (j + 1) (by omega) (by omega) _ (by rw [hsl,hc]) ?_)
    rw [ht] at hst
    rw [show (rows.length + (j + 1)) * 1 = (rows.length + j) * 1 + (dcells [[D.int .u8 ((m / 256 ^ j % 256:Nat):Int)]].flatten).length by simp [dcells];omega,hst,u8rows_succ]
    simp [dcells]
theorem put_tail {g:Hg} {fn:Func} {B:List Obj} {T:List Nat} {lw:Option Nat} {L:Lay} {w:World} (hge:g = ⟨g.P,g.gt,g.N,⟨B,T,none⟩,L,w⟩) (S:Sim g.gt ⟨B,T,lw⟩ L w) (hres:fn.results.toList.mapM (cRes g.P) = some [.slot 6,.slot 7])
    {rows:List (List D)} (hu8:rows.all isU8 = true) (hlen:rows.length ≤ 1000000) (k m:Nat) (h1:1 ≤ k) (h8:k ≤ 8) (x:HV) :
    HG g c99t (endQ g fn (extZ g.gt ⟨B,T,lw⟩ L w (.tup [.own (rows ++ u8rows k m) .exact,.d (.int .i64 0)]))) [] [] [(0,.d (.sl rows)),(1,.d (.int .i64 k)),(2,.d (.int .u64 m)),(25,x)] ⟨B,T,none⟩:=by
  unfold c99t
  refine hg_seq (hg_region fun ops ro=>?_)
  refine hw_am ro 0 6 2 rfl rfl ?_
  have hw:IntKind.i64.wrap ((rows.length:Int) + (k:Int)) = ((rows.length + k:Nat):Int):=by rw [wrap64 (by omega) (by omega)];omega
  simp only [go_sem,List.drop_succ_cons,List.drop_zero,List.take_succ_cons,List.take_zero,hw]
  refine hw_make ro 6 1 (d:=32) (x:=27) (y:=31) (n:=rows.length) (c:=rows.length + k) (sz:=1) rfl rfl rfl (by omega) (by omega) rfl fun b=>?_
  refine hw_mv ro 7 0 (d:=8) (s:=32) (V:=Value.slice (some ⟨b,0,none⟩) rows.length (rows.length + k)) (t':=[(8,Value.slice (some ⟨b,0,none⟩) rows.length (rows.length + k))]) rfl (by simp) rfl (by simp) ?_
  refine hw_end (hk_restrict [0,1,2,8] ?_)
  obtain ⟨c0,hc0,hcl⟩:∃ c0,(List.replicate (rows.length + k) [HV.d (.int .u8 0)]).flatten = c0 ∧ c0.length = (rows.length + k) * 1:=⟨_,rfl,by rw [flatten_len (sz:=1) (fun r hr=>by rw [(List.mem_replicate.1 hr).2];rfl)];simp⟩
  rw [hc0]
  have hr1:∀ r ∈ rows,r.length = 1:=fun r hr=>isU8_len (List.all_eq_true.1 hu8 r hr)
  have hrf:rows.flatten.length = rows.length * 1:=flatten_len hr1
  have hall:(rows.all fun r=>r.length == 1) = true:=by rw [List.all_eq_true];intro r hr;simp [hr1 r hr]
  show HK g _ _ _ (Env.restrict _ _) ⟨B ++ [.cells c0],T,none⟩
  simp only [go_sem]
  have hfit:0 + (dcells rows.flatten).length ≤ c0.length:=by rw [hcl];simp only [dcells,List.length_map,hrf];omega
  refine hk_next (hg_seq ?_)
  refine hg_am rfl ?_
  simp only [go_sem,hall,List.take_length]
  refine ⟨by omega,?_⟩
  refine hk_next (hg_seq (hg_seq ?_))
  refine hg_am rfl ?_
  simp only [go_sem]
  rw [dcells_flat]
  have hc1l:(dcells rows.flatten ++ c0.drop (dcells rows.flatten).length).length = (rows.length + k) * 1:=by
    rw [List.length_append,List.length_drop];omega
  have hc1t:(dcells rows.flatten ++ c0.drop (dcells rows.flatten).length).take ((rows.length + 0) * 1) = dcells (rows ++ u8rows 0 m).flatten:=by
    have:u8rows 0 m = []:=rfl
    have hdl:(dcells rows.flatten).length = (rows.length + 0) * 1:=by simp only [dcells,List.length_map,hrf,Nat.add_zero]
    rw [this,List.append_nil,List.take_append_of_le_length (by rw [hdl];exact Nat.le_refl _),List.take_of_length_le (by rw [hdl];exact Nat.le_refl _)]
  generalize dcells rows.flatten ++ c0.drop (dcells rows.flatten).length = c1 at hc1l hc1t ⊢
  refine hk_next (hg_block (hg_loop (k + 1) ?_))
  show HR g (k + 1) c99l0 _ [(8,Value.slice (some ⟨b,0,none⟩) (rows.length + 0) (rows.length + k))] [(B.length,b)] [(2,.d (.int .u64 m)),(8,.row B.length 0 (rows.length + 0) 1),(36,.d (.int .i64 k)),(37,.d (.int .i64 ((0:Nat):Int)))] ⟨B ++ [.cells c1],T,none⟩
  refine put_rounds (k:=k) (m:=m) (T:=T) h8 hlen hr1 (fun c x hcl hct=>?_) k 0 (by omega) (by omega) c1 hc1l hc1t
  refine hk_in (hk_restrict [8] ?_)
  simp only [go_sem]
  refine hk_next (hg_seq (hg_region fun ops ro=>?_))
  refine hw_mv ro 0 2 (d:=50) (s:=8) (V:=Value.slice (some ⟨b,0,none⟩) (rows.length + k) (rows.length + k)) (t':=[(50,Value.slice (some ⟨b,0,none⟩) (rows.length + k) (rows.length + k))]) rfl (by simp) rfl (by simp) ?_
  refine hw_mv ro 1 1 (d:=6) (s:=50) (V:=Value.slice (some ⟨b,0,none⟩) (rows.length + k) (rows.length + k)) (t':=[(6,Value.slice (some ⟨b,0,none⟩) (rows.length + k) (rows.length + k))]) rfl (by simp) rfl (by simp) ?_
  refine hw_am ro 2 1 0 rfl rfl ?_
  simp only [go_sem,List.drop_succ_cons,List.drop_zero,List.take_succ_cons,List.take_zero]
  refine hw_end (hk_restrict [6,7] ?_)
  simp only [go_sem]
  refine hk_next (hg_ret fun L1 w1 a hy=>?_)
  have hR1:∀ r ∈ rows ++ u8rows k m,r.length = 1:=fun r hr=>(List.mem_append.1 hr).elim (hr1 r) (u8rows_one k m r)
  have hRl:(rows ++ u8rows k m).length = rows.length + k:=by rw [List.length_append,u8rows_len]
  have hrows:(⟨B ++ [.cells c],T,none⟩:St).rows (.row B.length 0 (rows.length + k) 1) 1 = some (rows ++ u8rows k m):=by
    have hcc:(⟨B ++ [.cells c],T,none⟩:St).cells? B.length = some c:=by simp [St.cells?]
    simp only [St.rows,hcc,if_true]
    rw [if_pos (by omega),List.drop_zero,hct,toDs_dcells,Option.map_some,← hRl,chunks_flat _ hR1]
  have hfin:finish .shut ⟨B,T,lw⟩ [.row B.length 0 (rows.length + k) 1,.d (.int .i64 0)] ⟨B ++ [.cells c],T,none⟩ = (.tup [.d (.sl (rows ++ u8rows k m)),.d (.int .i64 0)],⟨(B ++ [Obj.cells c]).take B.length,T.take T.length,lw⟩):=by
    have e1:shutR ⟨B ++ [.cells c],T,none⟩ B.length (.row B.length 0 (rows.length + k) 1) = .d (.sl (rows ++ u8rows k m)):=by
      simp only [shutR,shut_row,St.freeze,Nat.le_refl,if_true,hrows]
    have e2:shutR ⟨B ++ [.cells c],T,none⟩ B.length (.d (.int .i64 0)) = .d (.int .i64 0):=rfl
    simp only [finish,List.map_cons,List.map_nil,e1,e2]
    rfl
  obtain ⟨hd,v,hv,L',e1,S1,V1,xs,hxs,hvx⟩:=hy_end (H:=⟨B,T,lw⟩) hge S hres hy rfl hfin (by simp) (by simp)
  refine ⟨.inr rfl,hd,v,hv,v,L',rfl,e1,S1,?_⟩
  have hv2:=results_two hres a.tmps w1
  rw [hv] at hv2
  simp only [Result.ok.injEq,and_true] at hv2
  have h6:a.tmps.getD 6 undef = Value.slice (some ⟨b,0,none⟩) (rows.length + k) (rows.length + k):=by
    have:=hy.T _ (List.mem_singleton.2 rfl)
    simp only at this
    simp [Array.getD_eq_getD_getElem?,this]
  rw [h6] at hv2
  subst hv2
  generalize a.tmps.getD 7 undef = x7 at V1
  have hbase:L'.base ≤ b:=by
    have h2:=hy.E.base
    have h3:=(hy.O _ (List.mem_singleton.2 rfl)).2
    have h4:=hy.S.young b (.inl ⟨_,h3⟩)
    have h5:=e1.base
    have h6:g.L0 = L:=by rw [hge]
    rw [h6] at h2
    omega
  generalize hvv:Value.tuple #[Value.slice (some ⟨b,0,none⟩) (rows.length + k) (rows.length + k),x7] = vv at V1
  cases V1 with
  | tup _ vs hvs=>
    simp only [Value.tuple.injEq] at hvv
    cases hvs with
    | cons _ y0 _ ys h0 hrest=>
      have e0:y0 = Value.slice (some ⟨b,0,none⟩) (rows.length + k) (rows.length + k):=by
        have:=congrArg (fun z=>z[0]?) hvv
        simpa using this.symm
      subst e0
      cases h0 with
      | d _ _ hdr=>
        refine .tup _ _ (.cons _ _ _ _ (.own _ _ _ hdr ⟨some ⟨b,0,none⟩,by rw [hRl],fun p hp=>?_⟩) hrest)
        simp only [Option.some.injEq] at hp
        subst hp
        exact hbase
theorem ext99:ExtOk Tryz.prog gtab 99 putX:=by
  intro args H r hr
  obtain ⟨b,wd,n,rows,rfl,hb,hu8,hlen,hn0,hn1,rfl⟩:=putX_inv hr
  obtain ⟨fn0,c0,f1,f2,f3,_⟩:=ok99.ex
  refine ⟨⟨fn0,f1,by rw [f2];rfl,f3⟩,fun L w vs S V=>?_⟩
  refine (hy_call ok99 S V (Z:=extZ gtab H L w (putR rows wd n)) fun fn hfn hres=>?_).2
  generalize hg:(⟨Tryz.prog,gtab,fn.ntmps,{ H with low:=none },L,w⟩:Hg) = g
  have he:enter [] 0 [b,.d (.int .i64 wd),.d (.int .u64 n)] = [(0,.d (.sl rows)),(1,.d (.int .i64 wd)),(2,.d (.int .u64 n))]:=by
    simp [enter,hb,shut_d]
  obtain ⟨B,T,lw⟩:=H
  have hge:g = ⟨g.P,g.gt,g.N,⟨B,T,none⟩,L,w⟩:=by rw [← hg]
  have hgg:gtab = g.gt:=by rw [← hg]
  have hgP:Tryz.prog = g.P:=by rw [← hg]
  rw [hgg] at S
  rw [hgP] at hres
  suffices hs:HG g c99 (endQ g fn (extZ g.gt ⟨B,T,lw⟩ L w (putR rows wd n))) [] [] [(0,.d (.sl rows)),(1,.d (.int .i64 wd)),(2,.d (.int .u64 n))] ⟨B,T,none⟩ by
    rw [← he,← hgg] at hs
    unfold endQ at hs
    rw [← hgP] at hs
    exact hs
  have err:∀ (x:Int) (e:Env),putR rows wd n = .tup [.own [] .exact,.d (.int .i64 x)] →
      HG g (.seq (R [c 6 (.own [] .exact),c 7 (.d (.int .i64 x))] [6,7]) .ret) (endQ g fn (extZ g.gt ⟨B,T,lw⟩ L w (putR rows wd n))) [] [] e ⟨B,T,none⟩:=by
    intro x e hx
    refine hg_seq (hg_am rfl ?_)
    simp only [go_sem]
    refine hk_next (hg_ret ?_)
    rw [hx]
    exact hk_end (H:=⟨B,T,lw⟩) hge S hres .keepTip rfl rfl (by simp) (by simp)
  have errQ:∀ (x:Int) (e:Env) (Q:Exit→Act→World→Prop),(Q .ret = endQ g fn (extZ g.gt ⟨B,T,lw⟩ L w (putR rows wd n)) .ret)→putR rows wd n = .tup [.own [] .exact,.d (.int .i64 x)] →
      HG g (.seq (R [c 6 (.own [] .exact),c 7 (.d (.int .i64 x))] [6,7]) .ret) Q [] [] e ⟨B,T,none⟩:=by
    intro x e Q hQ hx
    refine hg_seq (hg_am rfl ?_)
    simp only [go_sem]
    refine hk_next (hg_ret ?_)
    rw [hQ,hx]
    exact hk_end (H:=⟨B,T,lw⟩) hge S hres .keepTip rfl rfl (by simp) (by simp)
  unfold c99
  refine hg_seq (hg_am rfl ?_)
  simp only [go_sem]
  refine hk_next ?_
  refine hg_seq (hg_seq (hg_am rfl ?_))
  simp only [go_sem]
  refine WG_intro (fun h=>?_) fun h1=>?_
  · simp only [go_sem,h]
    have hw:wd < 1:=of_decide_eq_true h
    refine hk_next (hg_cond (b:=true) rfl ?_)
    exact errQ 1 _ _ rfl (by unfold putR;rw [if_pos (.inl hw)])
  simp only [go_sem,h1]
  have hw1:¬ wd < 1:=of_decide_eq_false h1
  refine hk_next (hg_cond (b:=decide (wd > 8)) rfl ?_)
  by_cases hw2:wd > 8
  · rw [if_pos (by simpa using hw2)]
    exact errQ 1 _ _ rfl (by unfold putR;rw [if_pos (.inr hw2)])
  rw [if_neg (by simpa using hw2)]
  refine hg_skip (hk_next ?_)
  refine hg_seq (hg_seq (hg_am rfl ?_))
  obtain ⟨k,rfl⟩:∃ k:Nat,wd = (k:Int):=⟨wd.toNat,by omega⟩
  obtain ⟨m,rfl⟩:∃ m:Nat,n = (m:Int):=⟨n.toNat,by omega⟩
  have hu:IntKind.u64.wrap (k:Int) = (k:Int):=by
    show (if (false && decide ((k:Int) % 18446744073709551616 ≥ 9223372036854775808)) = true then (k:Int) % 18446744073709551616 - 18446744073709551616 else (k:Int) % 18446744073709551616) = _
    simp only [Bool.false_and,Bool.false_eq_true,if_false]
    omega
  have hu8k:IntKind.u64.wrap (8 * (k:Int)) = ((8 * k:Nat):Int):=by
    show (if (false && decide ((8 * (k:Int)) % 18446744073709551616 ≥ 9223372036854775808)) = true then (8 * (k:Int)) % 18446744073709551616 - 18446744073709551616 else (8 * (k:Int)) % 18446744073709551616) = _
    simp only [Bool.false_and,Bool.false_eq_true,if_false]
    omega
  simp only [go_sem,hu,hu8k]
  have hrr:rows.length ≤ 1000000:=hlen
  refine WG_intro (fun h=>?_) fun h=>?_
  · simp only [go_sem,h,hu,hu8k,shr_pow (m:=m) (j:=k) (by omega)]
    have hk8:(k:Int) < 8:=of_decide_eq_true h
    refine hk_next (hg_cond (b:=((m / 256 ^ k:Nat):Int) != 0) rfl ?_)
    by_cases hz:m / 256 ^ k = 0
    · rw [if_neg (by simp [hz])]
      refine hg_skip (hk_next ?_)
      have hr:putR rows k m = .tup [.own (rows ++ u8rows k m) .exact,.d (.int .i64 0)]:=by
        unfold putR
        rw [if_neg (by omega),if_neg (by simp only [Int.toNat_natCast];exact fun h=>h.2 hz)]
        simp only [Int.toNat_natCast]
      rw [hr]
      exact put_tail hge S hres hu8 hlen k m (by omega) (by omega) _
    · rw [if_pos (by simp only [bne_iff_ne,ne_eq];omega)]
      exact errQ 3 _ _ rfl (by
        unfold putR
        rw [if_neg (by omega),if_pos (by simp only [Int.toNat_natCast];exact ⟨by omega,hz⟩)])
  · simp only [go_sem,h]
    have hk8:¬ (k:Int) < 8:=of_decide_eq_false h
    refine hk_next (hg_cond (b:=false) rfl ?_)
    refine hg_skip (hk_next ?_)
    have hr:putR rows k m = .tup [.own (rows ++ u8rows k m) .exact,.d (.int .i64 0)]:=by
      unfold putR
      rw [if_neg (by omega),if_neg (by omega)]
      simp only [Int.toNat_natCast]
    rw [hr]
    exact put_tail hge S hres hu8 hlen k m (by omega) (by omega) _
end Am
