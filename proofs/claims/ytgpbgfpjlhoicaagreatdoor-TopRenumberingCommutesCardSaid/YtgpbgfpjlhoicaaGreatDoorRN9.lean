/- Part 9 of the texts under TopRenumberingCommutes: joined, with what it needs alone. -/
import Derived.Test.YtgpbgfpjlhoicaaGreatDoorProg
import Derived.KernelRfl
import Derived.WideKeyPair
import Derived.DeepKeys4
import Derived.Test.YtgpbgfpjlhoicaaGreatDoorRN1
import Derived.Test.YtgpbgfpjlhoicaaGreatDoorRN3
import Derived.Test.YtgpbgfpjlhoicaaGreatDoorRN6
import Derived.Test.YtgpbgfpjlhoicaaGreatDoorRN7
import Derived.Test.YtgpbgfpjlhoicaaGreatDoorRN8
set_option linter.unusedVariables false
set_option maxRecDepth 100000
namespace Go.Proofs.YtgpbgfpjlhoicaaGreatDoor
section
def ty_1:Ty:=⟨.other,1,false,[.nilFunc]⟩
def ty_2:Ty:=⟨(.int .i64),1,false,[(.int .i64 0)]⟩
def ty_3:Ty:=⟨(.int .i64),1,false,[(.int .i64 0)]⟩
def ty_4:Ty:=⟨.bool,1,false,[(.bool false)]⟩
def ty_5:Ty:=⟨(.int .u8),1,false,[(.int .u8 0)]⟩
def ty_6:Ty:=⟨(.int .u8),1,false,[(.int .u8 0)]⟩
def ty_7:Ty:=⟨(.strct [(0,1,false),(1,1,false),(2,1,false),(3,1,false)]),4,true,[(.int .i64 0),(.int .i64 0),(.bool false),(.int .u8 0)]⟩
def ty_8:Ty:=⟨(.strct [(0,1,false),(1,1,false),(2,1,false),(3,1,false)]),4,true,[(.int .i64 0),(.int .i64 0),(.bool false),(.int .u8 0)]⟩
def ty_9:Ty:=⟨.string,1,false,[(.string ByteArray.empty)]⟩
def ty_10:Ty:=⟨.string,1,false,[(.string ByteArray.empty)]⟩
def ty_11:Ty:=⟨.string,1,false,[(.string ByteArray.empty)]⟩
def ty_12:Ty:=⟨(.int .u64),1,false,[(.int .u64 0)]⟩
def ty_13:Ty:=⟨(.strct [(0,1,false),(1,1,false)]),2,true,[(.string ByteArray.empty),(.int .u64 0)]⟩
def ty_14:Ty:=⟨(.strct [(0,1,false),(1,1,false)]),2,true,[(.string ByteArray.empty),(.int .u64 0)]⟩
def ty_15:Ty:=⟨.other,1,false,[(.pointer none)]⟩
def ty_16:Ty:=⟨.other,1,false,[(.pointer none)]⟩
def ty_17:Ty:=⟨.other,1,false,[(.pointer none)]⟩
def ty_18:Ty:=⟨(.strct [(0,1,false)]),1,true,[(.pointer none)]⟩
def ty_19:Ty:=⟨(.strct [(0,1,false)]),1,true,[(.pointer none)]⟩
def ty_20:Ty:=⟨.other,1,false,[.nilIface]⟩
def ty_21:Ty:=⟨(.int .i32),1,false,[(.int .i32 0)]⟩
def ty_22:Ty:=⟨(.slc 198 6 true 56 [(.string ByteArray.empty),(.int .i64 0),(.int .i64 0),(.int .i64 0),(.int .i64 0),(.int .i64 0)]),1,false,[(.slice none 0 0)]⟩
def ty_23:Ty:=⟨(.slc 97 3 true 64 [(.string ByteArray.empty),(.slice none 0 0),(.slice none 0 0)]),1,false,[(.slice none 0 0)]⟩
def ty_24:Ty:=⟨(.strct [(0,1,false),(1,1,false),(2,1,false)]),3,true,[(.string ByteArray.empty),(.slice none 0 0),(.slice none 0 0)]⟩
def ty_25:Ty:=⟨(.strct [(0,1,false),(1,1,false),(2,1,false)]),3,true,[(.string ByteArray.empty),(.slice none 0 0),(.slice none 0 0)]⟩
def ty_26:Ty:=⟨(.slc 3 1 false 8 [(.int .i64 0)]),1,false,[(.slice none 0 0)]⟩
def ty_27:Ty:=⟨(.slc 103 1 false 24 [(.slice none 0 0)]),1,false,[(.slice none 0 0)]⟩
def ty_28:Ty:=⟨(.strct [(0,1,false),(1,1,false)]),2,true,[(.slice none 0 0),(.slice none 0 0)]⟩
def zxg:Ty:=⟨(.strct [(0,1,false),(1,1,false)]),2,true,[(.slice none 0 0),(.slice none 0 0)]⟩
def ty_30:Ty:=⟨(.slc 26 1 false 24 [(.slice none 0 0)]),1,false,[(.slice none 0 0)]⟩
def ty_31:Ty:=⟨(.slc 40 1 false 4 [(.int .u32 0)]),1,false,[(.slice none 0 0)]⟩
def ty_32:Ty:=⟨.other,1,false,[.nilFunc]⟩
def ty_33:Ty:=⟨.other,1,false,[.nilFunc]⟩
def ty_34:Ty:=⟨.other,1,false,[.nilFunc]⟩
def ty_35:Ty:=⟨.other,1,false,[.nilFunc]⟩
def ty_36:Ty:=⟨.other,1,false,[.nilFunc]⟩
def ty_37:Ty:=⟨(.int .i64),1,false,[(.int .i64 0)]⟩
def ty_39:Ty:=⟨.other,1,false,[.nilFunc]⟩
def ty_40:Ty:=⟨(.int .u32),1,false,[(.int .u32 0)]⟩
def ty_41:Ty:=⟨(.strct [(0,1,false),(1,1,false),(2,1,false),(3,1,false),(4,1,false)]),5,true,[(.int .i64 0),(.int .i64 0),(.int .i64 0),(.int .i64 0),(.int .u32 0)]⟩
def ty_42:Ty:=⟨(.strct [(0,1,false),(1,1,false),(2,1,false),(3,1,false),(4,1,false)]),5,true,[(.int .i64 0),(.int .i64 0),(.int .i64 0),(.int .i64 0),(.int .u32 0)]⟩
def ty_43:Ty:=⟨(.strct [(0,1,false),(1,1,false),(2,1,false),(3,5,true)]),8,true,[(.slice none 0 0),(.slice none 0 0),(.slice none 0 0),(.int .i64 0),(.int .i64 0),(.int .i64 0),(.int .i64 0),(.int .u32 0)]⟩
def zur:Ty:=⟨(.strct [(0,1,false),(1,1,false),(2,1,false),(3,5,true)]),8,true,[(.slice none 0 0),(.slice none 0 0),(.slice none 0 0),(.int .i64 0),(.int .i64 0),(.int .i64 0),(.int .i64 0),(.int .u32 0)]⟩
def ty_46:Ty:=⟨.other,1,false,[.nilFunc]⟩
def ty_47:Ty:=⟨.other,1,false,[.nilFunc]⟩
def ty_48:Ty:=⟨.other,1,false,[.nilFunc]⟩
def ty_49:Ty:=⟨.other,1,false,[.nilFunc]⟩
def ty_50:Ty:=⟨.other,1,false,[.nilFunc]⟩
def ty_51:Ty:=⟨.other,1,false,[.nilFunc]⟩
def ty_52:Ty:=⟨.other,1,false,[.nilFunc]⟩
def ty_54:Ty:=⟨.other,1,false,[.nilFunc]⟩
def ty_55:Ty:=⟨.other,1,false,[.nilFunc]⟩
def ty_56:Ty:=⟨.other,1,false,[.nilFunc]⟩
def ty_57:Ty:=⟨(.slc 4 1 false 1 [(.bool false)]),1,false,[(.slice none 0 0)]⟩
def ty_58:Ty:=⟨(.slc 124 1 false 24 [(.slice none 0 0)]),1,false,[(.slice none 0 0)]⟩
def ty_59:Ty:=⟨(.strct [(0,1,false),(1,1,false)]),2,true,[(.slice none 0 0),(.slice none 0 0)]⟩
def ty_60:Ty:=⟨(.strct [(0,1,false),(1,1,false)]),2,true,[(.slice none 0 0),(.slice none 0 0)]⟩
def ty_62:Ty:=⟨.other,1,false,[.nilFunc]⟩
def ty_64:Ty:=⟨.other,1,false,[.nilFunc]⟩
def ty_65:Ty:=⟨.other,1,false,[.nilFunc]⟩
def ty_67:Ty:=⟨.other,1,false,[.nilFunc]⟩
def ty_69:Ty:=⟨.other,1,false,[.nilFunc]⟩
def ty_71:Ty:=⟨.other,1,false,[.nilFunc]⟩
def ty_73:Ty:=⟨.other,1,false,[.nilFunc]⟩
def ty_74:Ty:=⟨.other,1,false,[.nilFunc]⟩
def ty_75:Ty:=⟨(.slc 83 1 false 24 [(.slice none 0 0)]),1,false,[(.slice none 0 0)]⟩
def ty_76:Ty:=⟨.other,1,false,[.nilFunc]⟩
def ty_77:Ty:=⟨.other,1,false,[.nilFunc]⟩
def ty_78:Ty:=⟨(.slc 30 1 false 24 [(.slice none 0 0)]),1,false,[(.slice none 0 0)]⟩
def ty_79:Ty:=⟨(.slc 42 5 true 40 [(.int .i64 0),(.int .i64 0),(.int .i64 0),(.int .i64 0),(.int .u32 0)]),1,false,[(.slice none 0 0)]⟩
def ty_81:Ty:=⟨.other,1,false,[.nilFunc]⟩
def ty_82:Ty:=⟨.other,1,false,[.nilFunc]⟩
def ty_83:Ty:=⟨(.slc 167 2 true 16 [(.int .i64 0),(.int .i64 0)]),1,false,[(.slice none 0 0)]⟩
def ty_84:Ty:=⟨.other,1,false,[.nilFunc]⟩
def ty_85:Ty:=⟨.other,1,false,[.nilFunc]⟩
def ty_86:Ty:=⟨.other,1,false,[.nilFunc]⟩
def ty_88:Ty:=⟨.other,1,false,[.nilFunc]⟩
def ty_89:Ty:=⟨.other,1,false,[.nilFunc]⟩
def ty_90:Ty:=⟨.other,1,false,[.nilFunc]⟩
def ty_91:Ty:=⟨.other,1,false,[.nilFunc]⟩
def ty_92:Ty:=⟨.other,1,false,[.nilFunc]⟩
def ty_93:Ty:=⟨.other,1,false,[.nilFunc]⟩
def ty_94:Ty:=⟨.other,1,false,[.nilFunc]⟩
def ty_95:Ty:=⟨(.slc 99 2 true 32 [(.int .i64 0),(.slice none 0 0)]),1,false,[(.slice none 0 0)]⟩
def ty_96:Ty:=⟨(.strct [(0,1,false),(1,1,false),(2,1,false)]),3,true,[(.string ByteArray.empty),(.slice none 0 0),(.slice none 0 0)]⟩
def ty_97:Ty:=⟨(.strct [(0,1,false),(1,1,false),(2,1,false)]),3,true,[(.string ByteArray.empty),(.slice none 0 0),(.slice none 0 0)]⟩
def ty_98:Ty:=⟨(.strct [(0,1,false),(1,1,false)]),2,true,[(.int .i64 0),(.slice none 0 0)]⟩
def ty_99:Ty:=⟨(.strct [(0,1,false),(1,1,false)]),2,true,[(.int .i64 0),(.slice none 0 0)]⟩
def ty_100:Ty:=⟨.other,1,false,[.nilFunc]⟩
def ty_101:Ty:=⟨.other,1,false,[.nilFunc]⟩
def ty_102:Ty:=⟨.other,1,false,[.nilFunc]⟩
def ty_103:Ty:=⟨(.slc 105 2 true 16 [(.int .i64 0),(.int .i64 0)]),1,false,[(.slice none 0 0)]⟩
def ty_104:Ty:=⟨(.strct [(0,1,false),(1,1,false)]),2,true,[(.int .i64 0),(.int .i64 0)]⟩
def ty_105:Ty:=⟨(.strct [(0,1,false),(1,1,false)]),2,true,[(.int .i64 0),(.int .i64 0)]⟩
def ty_106:Ty:=⟨.other,1,false,[.nilFunc]⟩
def ty_107:Ty:=⟨.other,1,false,[(.pointer none)]⟩
def ty_108:Ty:=⟨(.slc 40 1 false 4 [(.int .u32 0)]),1,false,[(.slice none 0 0)]⟩
def ty_109:Ty:=⟨.other,1,false,[.nilFunc]⟩
def ty_110:Ty:=⟨(.strct [(0,1,false),(1,1,false),(2,1,false),(3,1,false),(4,1,false)]),5,true,[(.pointer none),(.slice none 0 0),(.int .i64 0),(.int .u32 0),.nilFunc]⟩
def ty_111:Ty:=⟨(.strct [(0,1,false),(1,1,false),(2,1,false),(3,1,false),(4,1,false)]),5,true,[(.pointer none),(.slice none 0 0),(.int .i64 0),(.int .u32 0),.nilFunc]⟩
def ty_112:Ty:=⟨.other,1,false,[.nilFunc]⟩
def ty_113:Ty:=⟨.other,1,false,[.nilFunc]⟩
def ty_114:Ty:=⟨.other,1,false,[.nilFunc]⟩
def ty_115:Ty:=⟨(.int .u64),1,false,[(.int .u64 0)]⟩
def ty_116:Ty:=⟨.other,1,false,[.nilFunc]⟩
def ty_117:Ty:=⟨.other,1,false,[.nilFunc]⟩
def ty_118:Ty:=⟨.other,1,false,[.nilFunc]⟩
def ty_119:Ty:=⟨.other,1,false,[.nilFunc]⟩
def ty_121:Ty:=⟨.other,1,false,[.nilFunc]⟩
def ty_122:Ty:=⟨.other,1,false,[.nilFunc]⟩
def ty_123:Ty:=⟨.other,1,false,[.nilFunc]⟩
def ty_124:Ty:=⟨(.slc 129 2 true 16 [(.int .u32 0),(.int .i64 0)]),1,false,[(.slice none 0 0)]⟩
def ty_125:Ty:=⟨.other,1,false,[.nilFunc]⟩
def ty_126:Ty:=⟨.other,1,false,[.nilFunc]⟩
def ty_127:Ty:=⟨.other,1,false,[.nilFunc]⟩
def ty_128:Ty:=⟨(.strct [(0,1,false),(1,1,false)]),2,true,[(.int .u32 0),(.int .i64 0)]⟩
def ty_129:Ty:=⟨(.strct [(0,1,false),(1,1,false)]),2,true,[(.int .u32 0),(.int .i64 0)]⟩
def ty_130:Ty:=⟨.other,1,false,[.nilFunc]⟩
def ty_131:Ty:=⟨.other,1,false,[.nilFunc]⟩
def ty_132:Ty:=⟨(.slc 135 1 false 24 [(.slice none 0 0)]),1,false,[(.slice none 0 0)]⟩
def ty_133:Ty:=⟨.other,1,false,[.nilFunc]⟩
def ty_134:Ty:=⟨.other,1,false,[.nilFunc]⟩
def ty_135:Ty:=⟨(.slc 136 2 true 16 [(.int .i64 0),(.int .i64 0)]),1,false,[(.slice none 0 0)]⟩
def ty_136:Ty:=⟨(.arr 2 1 false),2,true,[(.int .i64 0),(.int .i64 0)]⟩
def ty_137:Ty:=⟨.other,1,false,[.nilFunc]⟩
def ty_138:Ty:=⟨.other,1,false,[.nilFunc]⟩
def ty_139:Ty:=⟨.other,1,false,[.nilFunc]⟩
def ty_140:Ty:=⟨.other,1,false,[.nilFunc]⟩
def ty_142:Ty:=⟨.other,1,false,[.nilFunc]⟩
def ty_143:Ty:=⟨.other,1,false,[.nilFunc]⟩
def ty_144:Ty:=⟨.other,1,false,[.nilFunc]⟩
def ty_145:Ty:=⟨.other,1,false,[.nilFunc]⟩
def ty_146:Ty:=⟨.other,1,false,[.nilFunc]⟩
def ty_147:Ty:=⟨.other,1,false,[.nilFunc]⟩
def ty_148:Ty:=⟨.other,1,false,[.nilFunc]⟩
def ty_149:Ty:=⟨.other,1,false,[(.pointer none)]⟩
def ty_150:Ty:=⟨.other,1,false,[.nilFunc]⟩
def ty_151:Ty:=⟨.other,1,false,[.nilFunc]⟩
def ty_152:Ty:=⟨.other,1,false,[.nilFunc]⟩
def ty_153:Ty:=⟨.other,1,false,[.nilFunc]⟩
def ty_154:Ty:=⟨(.slc 214 4 true 32 [(.int .i64 0),(.int .i64 0),(.int .i64 0),(.int .i64 0)]),1,false,[(.slice none 0 0)]⟩
def ty_156:Ty:=⟨.other,1,false,[.nilFunc]⟩
def ty_157:Ty:=⟨.other,1,false,[(.pointer none)]⟩
def ty_158:Ty:=⟨(.slc 9 1 false 16 [(.string ByteArray.empty)]),1,false,[(.slice none 0 0)]⟩
def ty_159:Ty:=⟨(.strct [(0,1,false),(1,1,false),(2,1,false)]),3,true,[(.string ByteArray.empty),(.slice none 0 0),(.slice none 0 0)]⟩
def ty_160:Ty:=⟨(.strct [(0,1,false),(1,1,false),(2,1,false)]),3,true,[(.string ByteArray.empty),(.slice none 0 0),(.slice none 0 0)]⟩
def ty_161:Ty:=⟨(.strct [(0,3,true),(3,3,true),(6,1,false)]),7,true,[(.string ByteArray.empty),(.slice none 0 0),(.slice none 0 0),(.string ByteArray.empty),(.slice none 0 0),(.slice none 0 0),(.slice none 0 0)]⟩
def ty_162:Ty:=⟨(.strct [(0,3,true),(3,3,true),(6,1,false)]),7,true,[(.string ByteArray.empty),(.slice none 0 0),(.slice none 0 0),(.string ByteArray.empty),(.slice none 0 0),(.slice none 0 0),(.slice none 0 0)]⟩
def ty_163:Ty:=⟨.other,1,false,[.nilFunc]⟩
def ty_164:Ty:=⟨.other,1,false,[.nilFunc]⟩
def ty_165:Ty:=⟨.other,1,false,[.nilFunc]⟩
def ty_166:Ty:=⟨(.strct [(0,1,false),(1,1,false)]),2,true,[(.int .i64 0),(.int .i64 0)]⟩
def ty_167:Ty:=⟨(.strct [(0,1,false),(1,1,false)]),2,true,[(.int .i64 0),(.int .i64 0)]⟩
def ty_168:Ty:=⟨.other,1,false,[.nilFunc]⟩
def ty_169:Ty:=⟨.other,1,false,[.nilFunc]⟩
def ty_170:Ty:=⟨.other,1,false,[.nilFunc]⟩
def ty_171:Ty:=⟨.other,1,false,[.nilFunc]⟩
def ty_172:Ty:=⟨.other,1,false,[.nilFunc]⟩
def ty_173:Ty:=⟨.other,1,false,[.nilFunc]⟩
def ty_174:Ty:=⟨.other,1,false,[.nilFunc]⟩
def ty_175:Ty:=⟨.other,1,false,[.nilFunc]⟩
def ty_176:Ty:=⟨.other,1,false,[.nilFunc]⟩
def ty_177:Ty:=⟨.other,1,false,[.nilFunc]⟩
def ty_178:Ty:=⟨.other,1,false,[.nilFunc]⟩
def ty_179:Ty:=⟨.other,1,false,[.nilFunc]⟩
def ty_181:Ty:=⟨.other,1,false,[.nilFunc]⟩
def ty_182:Ty:=⟨.other,1,false,[.nilFunc]⟩
def ty_183:Ty:=⟨.other,1,false,[.nilFunc]⟩
def ty_184:Ty:=⟨.other,1,false,[.nilFunc]⟩
def ty_185:Ty:=⟨.other,1,false,[(.pointer none)]⟩
def ty_186:Ty:=⟨.other,1,false,[.nilFunc]⟩
def ty_187:Ty:=⟨.other,1,false,[.nilFunc]⟩
def ty_189:Ty:=⟨.other,1,false,[.nilFunc]⟩
def ty_190:Ty:=⟨.other,1,false,[.nilFunc]⟩
def ty_191:Ty:=⟨(.strct [(0,1,false),(1,1,false),(2,1,false),(3,1,false),(4,1,false)]),5,true,[(.pointer none),(.slice none 0 0),(.int .i64 0),(.slice none 0 0),(.slice none 0 0)]⟩
def ty_192:Ty:=⟨(.strct [(0,1,false),(1,1,false),(2,1,false),(3,1,false),(4,1,false)]),5,true,[(.pointer none),(.slice none 0 0),(.int .i64 0),(.slice none 0 0),(.slice none 0 0)]⟩
def ty_193:Ty:=⟨.other,1,false,[.nilFunc]⟩
def ty_194:Ty:=⟨.other,1,false,[.nilFunc]⟩
def ty_195:Ty:=⟨.other,1,false,[.nilFunc]⟩
def ty_196:Ty:=⟨.other,1,false,[.nilFunc]⟩
def ty_197:Ty:=⟨(.strct [(0,1,false),(1,1,false),(2,1,false),(3,1,false),(4,1,false),(5,1,false)]),6,true,[(.string ByteArray.empty),(.int .i64 0),(.int .i64 0),(.int .i64 0),(.int .i64 0),(.int .i64 0)]⟩
def ty_198:Ty:=⟨(.strct [(0,1,false),(1,1,false),(2,1,false),(3,1,false),(4,1,false),(5,1,false)]),6,true,[(.string ByteArray.empty),(.int .i64 0),(.int .i64 0),(.int .i64 0),(.int .i64 0),(.int .i64 0)]⟩
def ty_199:Ty:=⟨.other,1,false,[.nilFunc]⟩
def ty_200:Ty:=⟨.other,1,false,[.nilFunc]⟩
def ty_201:Ty:=⟨.other,1,false,[.nilFunc]⟩
def ty_202:Ty:=⟨.other,1,false,[.nilFunc]⟩
def ty_204:Ty:=⟨.other,1,false,[.nilFunc]⟩
def ty_205:Ty:=⟨.other,1,false,[.nilFunc]⟩
def ty_206:Ty:=⟨.other,1,false,[.nilFunc]⟩
def ty_207:Ty:=⟨.other,1,false,[.nilFunc]⟩
def ty_208:Ty:=⟨.other,1,false,[.nilFunc]⟩
def ty_209:Ty:=⟨.other,1,false,[.nilFunc]⟩
def ty_210:Ty:=⟨(.strct [(0,3,true),(3,2,true),(5,1,false),(6,1,false)]),7,true,[(.string ByteArray.empty),(.slice none 0 0),(.slice none 0 0),(.slice none 0 0),(.slice none 0 0),(.int .i64 0),(.slice none 0 0)]⟩
def ty_211:Ty:=⟨(.strct [(0,3,true),(3,2,true),(5,1,false),(6,1,false)]),7,true,[(.string ByteArray.empty),(.slice none 0 0),(.slice none 0 0),(.slice none 0 0),(.slice none 0 0),(.int .i64 0),(.slice none 0 0)]⟩
def ty_212:Ty:=⟨.other,1,false,[.nilFunc]⟩
def ty_213:Ty:=⟨(.strct [(0,1,false),(1,1,false),(2,1,false),(3,1,false)]),4,true,[(.int .i64 0),(.int .i64 0),(.int .i64 0),(.int .i64 0)]⟩
def ty_214:Ty:=⟨(.strct [(0,1,false),(1,1,false),(2,1,false),(3,1,false)]),4,true,[(.int .i64 0),(.int .i64 0),(.int .i64 0),(.int .i64 0)]⟩
def ty_216:Ty:=⟨.other,1,false,[.nilFunc]⟩
def ty_217:Ty:=⟨(.strct [(0,1,false),(1,1,false)]),2,true,[(.int .i64 0),(.int .i64 0)]⟩
def ty_218:Ty:=⟨(.strct [(0,1,false),(1,1,false)]),2,true,[(.int .i64 0),(.int .i64 0)]⟩
def ty_220:Ty:=⟨.other,1,false,[.nilFunc]⟩
def ty_221:Ty:=⟨.other,1,false,[.nilFunc]⟩
def ty_222:Ty:=⟨.other,1,false,[.nilFunc]⟩
def ty_223:Ty:=⟨.other,1,false,[.nilFunc]⟩
def ty_224:Ty:=⟨.other,1,false,[.nilFunc]⟩
def ty_225:Ty:=⟨.other,1,false,[.nilFunc]⟩
def ty_226:Ty:=⟨.other,1,false,[.nilFunc]⟩
def ty_227:Ty:=⟨.other,1,false,[.nilFunc]⟩
def ty_228:Ty:=⟨.other,1,false,[.nilFunc]⟩
def ty_229:Ty:=⟨.other,1,false,[.nilFunc]⟩
def ty_230:Ty:=⟨(.slc 31 1 false 24 [(.slice none 0 0)]),1,false,[(.slice none 0 0)]⟩
def ty_232:Ty:=⟨.other,1,false,[.nilFunc]⟩
def ty_233:Ty:=⟨(.map 235 3),1,false,[(.map none)]⟩
def ty_234:Ty:=⟨(.strct [(0,1,false),(1,1,false)]),2,true,[(.int .i64 0),(.int .u32 0)]⟩
def ty_235:Ty:=⟨(.strct [(0,1,false),(1,1,false)]),2,true,[(.int .i64 0),(.int .u32 0)]⟩
def ty_237:Ty:=⟨.other,1,false,[.nilFunc]⟩
def ty_238:Ty:=⟨.other,1,false,[.nilFunc]⟩
def ty_239:Ty:=⟨(.arr 256 1 false),256,true,[(.bool false),(.bool false),(.bool false),(.bool false),(.bool false),(.bool false),(.bool false),(.bool false),(.bool false),(.bool false),(.bool false),(.bool false),(.bool false),(.bool false),(.bool false),(.bool false),(.bool false),(.bool false),(.bool false),(.bool false),(.bool false),(.bool false),(.bool false),(.bool false),(.bool false),(.bool false),(.bool false),(.bool false),(.bool false),(.bool false),(.bool false),(.bool false),(.bool false),(.bool false),(.bool false),(.bool false),(.bool false),(.bool false),(.bool false),(.bool false),(.bool false),(.bool false),(.bool false),(.bool false),(.bool false),(.bool false),(.bool false),(.bool false),(.bool false),(.bool false),(.bool false),(.bool false),(.bool false),(.bool false),(.bool false),(.bool false),(.bool false),(.bool false),(.bool false),(.bool false),(.bool false),(.bool false),(.bool false),(.bool false),(.bool false),(.bool false),(.bool false),(.bool false),(.bool false),(.bool false),(.bool false),(.bool false),(.bool false),(.bool false),(.bool false),(.bool false),(.bool false),(.bool false),(.bool false),(.bool false),(.bool false),(.bool false),(.bool false),(.bool false),(.bool false),(.bool false),(.bool false),(.bool false),(.bool false),(.bool false),(.bool false),(.bool false),(.bool false),(.bool false),(.bool false),(.bool false),(.bool false),(.bool false),(.bool false),(.bool false),(.bool false),(.bool false),(.bool false),(.bool false),(.bool false),(.bool false),(.bool false),(.bool false),(.bool false),(.bool false),(.bool false),(.bool false),(.bool false),(.bool false),(.bool false),(.bool false),(.bool false),(.bool false),(.bool false),(.bool false),(.bool false),(.bool false),(.bool false),(.bool false),(.bool false),(.bool false),(.bool false),(.bool false),(.bool false),(.bool false),(.bool false),(.bool false),(.bool false),(.bool false),(.bool false),(.bool false),(.bool false),(.bool false),(.bool false),(.bool false),(.bool false),(.bool false),(.bool false),(.bool false),(.bool false),(.bool false),(.bool false),(.bool false),(.bool false),(.bool false),(.bool false),(.bool false),(.bool false),(.bool false),(.bool false),(.bool false),(.bool false),(.bool false),(.bool false),(.bool false),(.bool false),(.bool false),(.bool false),(.bool false),(.bool false),(.bool false),(.bool false),(.bool false),(.bool false),(.bool false),(.bool false),(.bool false),(.bool false),(.bool false),(.bool false),(.bool false),(.bool false),(.bool false),(.bool false),(.bool false),(.bool false),(.bool false),(.bool false),(.bool false),(.bool false),(.bool false),(.bool false),(.bool false),(.bool false),(.bool false),(.bool false),(.bool false),(.bool false),(.bool false),(.bool false),(.bool false),(.bool false),(.bool false),(.bool false),(.bool false),(.bool false),(.bool false),(.bool false),(.bool false),(.bool false),(.bool false),(.bool false),(.bool false),(.bool false),(.bool false),(.bool false),(.bool false),(.bool false),(.bool false),(.bool false),(.bool false),(.bool false),(.bool false),(.bool false),(.bool false),(.bool false),(.bool false),(.bool false),(.bool false),(.bool false),(.bool false),(.bool false),(.bool false),(.bool false),(.bool false),(.bool false),(.bool false),(.bool false),(.bool false),(.bool false),(.bool false),(.bool false),(.bool false),(.bool false),(.bool false),(.bool false),(.bool false),(.bool false),(.bool false),(.bool false),(.bool false),(.bool false),(.bool false),(.bool false),(.bool false),(.bool false),(.bool false),(.bool false),(.bool false),(.bool false),(.bool false)]⟩
def ty_240:Ty:=⟨(.map 136 3),1,false,[(.map none)]⟩
def ty_242:Ty:=⟨(.strct [(0,3,true),(3,1,false),(4,1,false)]),5,true,[(.string ByteArray.empty),(.slice none 0 0),(.slice none 0 0),(.pointer none),(.slice none 0 0)]⟩
def ty_243:Ty:=⟨(.strct [(0,3,true),(3,1,false),(4,1,false)]),5,true,[(.string ByteArray.empty),(.slice none 0 0),(.slice none 0 0),(.pointer none),(.slice none 0 0)]⟩
def ty_245:Ty:=⟨.other,1,false,[.nilFunc]⟩
def ty_246:Ty:=⟨.other,1,false,[.nilFunc]⟩
def ty_247:Ty:=⟨.other,1,false,[.nilFunc]⟩
def ty_248:Ty:=⟨.other,1,false,[.nilFunc]⟩
def ty_249:Ty:=⟨.other,1,false,[.nilFunc]⟩
def ty_250:Ty:=⟨.other,1,false,[.nilFunc]⟩
def ty_251:Ty:=⟨.other,1,false,[.nilFunc]⟩
def ty_252:Ty:=⟨.other,1,false,[.nilFunc]⟩
def ty_253:Ty:=⟨.other,1,false,[.nilFunc]⟩
def ty_254:Ty:=⟨(.arr 24 1 false),24,true,[(.int .i64 0),(.int .i64 0),(.int .i64 0),(.int .i64 0),(.int .i64 0),(.int .i64 0),(.int .i64 0),(.int .i64 0),(.int .i64 0),(.int .i64 0),(.int .i64 0),(.int .i64 0),(.int .i64 0),(.int .i64 0),(.int .i64 0),(.int .i64 0),(.int .i64 0),(.int .i64 0),(.int .i64 0),(.int .i64 0),(.int .i64 0),(.int .i64 0),(.int .i64 0),(.int .i64 0)]⟩
def ty_255:Ty:=⟨.other,1,false,[.nilFunc]⟩
def ty_256:Ty:=⟨.other,1,false,[.nilFunc]⟩
def ty_257:Ty:=⟨.other,1,false,[.nilFunc]⟩
def ty_258:Ty:=⟨.other,1,false,[.nilFunc]⟩
def ty_259:Ty:=⟨.other,1,false,[.nilFunc]⟩
def ty_260:Ty:=⟨.other,1,false,[.nilFunc]⟩
def ty_261:Ty:=⟨.other,1,false,[.nilFunc]⟩
def ty_262:Ty:=⟨.other,1,false,[.nilFunc]⟩
def ty_263:Ty:=⟨.other,1,false,[.nilFunc]⟩
def ty_264:Ty:=⟨.other,1,false,[.nilFunc]⟩
def ty_265:Ty:=⟨.other,1,false,[.nilFunc]⟩
def ty_266:Ty:=⟨(.strct [(0,1,false),(1,1,false)]),2,true,[(.int .i64 0),.nilFunc]⟩
def ty_267:Ty:=⟨(.strct [(0,1,false),(1,1,false)]),2,true,[(.int .i64 0),.nilFunc]⟩
def ty_268:Ty:=⟨(.slc 267 2 true 16 [(.int .i64 0),.nilFunc]),1,false,[(.slice none 0 0)]⟩
def ty_269:Ty:=⟨.other,1,false,[.nilFunc]⟩
def ty_270:Ty:=⟨.other,1,false,[.nilFunc]⟩
def ty_271:Ty:=⟨.other,1,false,[.nilFunc]⟩
def ty_272:Ty:=⟨.other,1,false,[.nilFunc]⟩
def ty_273:Ty:=⟨(.strct [(0,1,false),(1,1,false)]),2,true,[(.slice none 0 0),(.slice none 0 0)]⟩
def ty_274:Ty:=⟨(.strct [(0,1,false),(1,1,false)]),2,true,[(.slice none 0 0),(.slice none 0 0)]⟩
def ty_275:Ty:=⟨.other,1,false,[.nilFunc]⟩
def ty_276:Ty:=⟨(.strct [(0,1,false),(1,1,false),(2,1,false),(3,1,false)]),4,true,[(.pointer none),(.slice none 0 0),(.int .i64 0),(.slice none 0 0)]⟩
def ty_277:Ty:=⟨(.strct [(0,1,false),(1,1,false),(2,1,false),(3,1,false)]),4,true,[(.pointer none),(.slice none 0 0),(.int .i64 0),(.slice none 0 0)]⟩
def ty_278:Ty:=⟨.other,1,false,[.nilFunc]⟩
def ty_279:Ty:=⟨.other,1,false,[.nilFunc]⟩
def ty_280:Ty:=⟨.other,1,false,[.nilFunc]⟩
def ty_281:Ty:=⟨.other,1,false,[.nilFunc]⟩
def ty_282:Ty:=⟨.other,1,false,[.nilFunc]⟩
def ty_283:Ty:=⟨.other,1,false,[(.pointer none)]⟩
def ty_284:Ty:=⟨.other,1,false,[.nilFunc]⟩
def ty_285:Ty:=⟨.other,1,false,[.nilFunc]⟩
def ty_286:Ty:=⟨.other,1,false,[.nilFunc]⟩
def ty_287:Ty:=⟨.other,1,false,[.nilFunc]⟩
def ty_288:Ty:=⟨.other,1,false,[.nilFunc]⟩
def ty_289:Ty:=⟨.other,1,false,[(.pointer none)]⟩
def ty_290:Ty:=⟨.other,1,false,[.nilFunc]⟩
def ty_291:Ty:=⟨(.map 9 4),1,false,[(.map none)]⟩
def ty_292:Ty:=⟨(.map 3 4),1,false,[(.map none)]⟩
def ty_293:Ty:=⟨(.map 235 4),1,false,[(.map none)]⟩
def ty_294:Ty:=⟨(.slc 235 2 true 16 [(.int .i64 0),(.int .u32 0)]),1,false,[(.slice none 0 0)]⟩
def ty_295:Ty:=⟨.other,1,false,[.nilFunc]⟩
def ty_296:Ty:=⟨.other,1,false,[.nilFunc]⟩
def ty_297:Ty:=⟨.other,1,false,[.nilFunc]⟩
def ty_298:Ty:=⟨.other,1,false,[.nilFunc]⟩
def ty_299:Ty:=⟨.other,1,false,[.nilFunc]⟩
def ty_300:Ty:=⟨.other,1,false,[.nilFunc]⟩
def ty_301:Ty:=⟨.other,1,false,[.nilFunc]⟩
def ty_302:Ty:=⟨.other,1,false,[.nilFunc]⟩
def ty_303:Ty:=⟨.other,1,false,[.nilFunc]⟩
def ty_304:Ty:=⟨.other,1,false,[.nilFunc]⟩
def ty_305:Ty:=⟨.other,1,false,[.nilFunc]⟩
def ty_306:Ty:=⟨.other,1,false,[.nilFunc]⟩
def ty_307:Ty:=⟨.other,1,false,[.nilFunc]⟩
def ty_308:Ty:=⟨.other,1,false,[.nilFunc]⟩
def ty_309:Ty:=⟨(.arr 3 1 false),3,true,[(.int .i64 0),(.int .i64 0),(.int .i64 0)]⟩
def ty_310:Ty:=⟨.other,1,false,[.nilFunc]⟩
def ty_311:Ty:=⟨.other,1,false,[(.pointer none)]⟩
def ty_312:Ty:=⟨.other,1,false,[.nilFunc]⟩
def ty_313:Ty:=⟨.other,1,false,[.nilFunc]⟩
def ty_314:Ty:=⟨.other,1,false,[.nilFunc]⟩
def ty_315:Ty:=⟨.other,1,false,[.nilFunc]⟩
def ty_316:Ty:=⟨.other,1,false,[.nilFunc]⟩
def ty_317:Ty:=⟨.other,1,false,[.nilFunc]⟩
def ty_318:Ty:=⟨.other,1,false,[.nilFunc]⟩
def ty_319:Ty:=⟨(.arr 32 1 false),32,true,[(.int .u8 0),(.int .u8 0),(.int .u8 0),(.int .u8 0),(.int .u8 0),(.int .u8 0),(.int .u8 0),(.int .u8 0),(.int .u8 0),(.int .u8 0),(.int .u8 0),(.int .u8 0),(.int .u8 0),(.int .u8 0),(.int .u8 0),(.int .u8 0),(.int .u8 0),(.int .u8 0),(.int .u8 0),(.int .u8 0),(.int .u8 0),(.int .u8 0),(.int .u8 0),(.int .u8 0),(.int .u8 0),(.int .u8 0),(.int .u8 0),(.int .u8 0),(.int .u8 0),(.int .u8 0),(.int .u8 0),(.int .u8 0)]⟩
def ty_320:Ty:=⟨.other,1,false,[.nilFunc]⟩
def ty_321:Ty:=⟨.other,1,false,[.nilFunc]⟩
def ty_322:Ty:=⟨.other,1,false,[.nilFunc]⟩
def ty_323:Ty:=⟨.other,1,false,[.nilFunc]⟩
def ty_324:Ty:=⟨.other,1,false,[.nilFunc]⟩
def ty_325:Ty:=⟨.other,1,false,[.nilFunc]⟩
def ty_326:Ty:=⟨.other,1,false,[.nilFunc]⟩
def ty_327:Ty:=⟨.other,1,false,[.nilFunc]⟩
def ty_328:Ty:=⟨.other,1,false,[.nilFunc]⟩
def ty_329:Ty:=⟨.other,1,false,[.nilFunc]⟩
def ty_330:Ty:=⟨.other,1,false,[.nilFunc]⟩
def ty_331:Ty:=⟨.other,1,false,[.nilFunc]⟩
def ty_332:Ty:=⟨.other,1,false,[.nilFunc]⟩
def ty_333:Ty:=⟨.other,1,false,[.nilFunc]⟩
def ty_334:Ty:=⟨.other,1,false,[.nilFunc]⟩
def ty_335:Ty:=⟨.other,1,false,[.nilFunc]⟩
def ty_336:Ty:=⟨.other,1,false,[.nilFunc]⟩
def ty_337:Ty:=⟨.other,1,false,[.nilFunc]⟩
def ty_338:Ty:=⟨(.strct [(0,1,false),(1,1,false),(2,1,false),(3,1,false)]),4,true,[(.pointer none),(.pointer none),(.pointer none),(.string ByteArray.empty)]⟩
def ty_339:Ty:=⟨(.strct [(0,1,false),(1,1,false),(2,1,false),(3,1,false)]),4,true,[(.pointer none),(.pointer none),(.pointer none),(.string ByteArray.empty)]⟩
def ty_343:Ty:=⟨(.int .u8),1,false,[(.int .u8 0)]⟩
def ty_344:Ty:=⟨(.int .u8),1,false,[(.int .u8 0)]⟩
def ty_345:Ty:=⟨.other,1,false,[.nilFunc]⟩
def ty_346:Ty:=⟨.other,1,false,[(.pointer none)]⟩
def ty_347:Ty:=⟨(.int .i32),1,false,[(.int .i32 0)]⟩
def ty_348:Ty:=⟨(.int .i32),1,false,[(.int .i32 0)]⟩
def ty_349:Ty:=⟨(.strct [(0,1,false),(1,1,false),(2,1,false),(3,1,false),(4,1,false),(5,1,false),(6,1,false),(7,1,false),(8,1,false),(9,1,false),(10,1,false)]),11,true,[(.int .u64 0),(.int .u64 0),(.int .u32 0),(.int .u8 0),(.int .u8 0),(.int .u8 0),(.int .u8 0),.nilFunc,(.pointer none),(.int .i32 0),(.int .i32 0)]⟩
def ty_350:Ty:=⟨(.strct [(0,1,false),(1,1,false),(2,1,false),(3,1,false),(4,1,false),(5,1,false),(6,1,false),(7,1,false),(8,1,false),(9,1,false),(10,1,false)]),11,true,[(.int .u64 0),(.int .u64 0),(.int .u32 0),(.int .u8 0),(.int .u8 0),(.int .u8 0),(.int .u8 0),.nilFunc,(.pointer none),(.int .i32 0),(.int .i32 0)]⟩
def ty_351:Ty:=⟨.other,1,false,[(.pointer none)]⟩
def tabL:List (Nat × Ty):=[(1,ty_1),(2,ty_2),(3,ty_3),(4,ty_4),(5,ty_5),(6,ty_6),(7,ty_7),(8,ty_8),(9,ty_9),(10,ty_10),(11,ty_11),(12,ty_12),(13,ty_13),(14,ty_14),(15,ty_15),(16,ty_16),(17,ty_17),(18,ty_18),(19,ty_19),(20,ty_20),(21,ty_21),(22,ty_22),(23,ty_23),(24,ty_24),(25,ty_25),(26,ty_26),(27,ty_27),(28,ty_28),(29,zxg),(30,ty_30),(31,ty_31),(32,ty_32),(33,ty_33),(34,ty_34),(35,ty_35),(36,ty_36),(37,ty_37),(39,ty_39),(40,ty_40),(41,ty_41),(42,ty_42),(43,ty_43),(44,zur),(46,ty_46),(47,ty_47),(48,ty_48),(49,ty_49),(50,ty_50),(51,ty_51),(52,ty_52),(54,ty_54),(55,ty_55),(56,ty_56),(57,ty_57),(58,ty_58),(59,ty_59),(60,ty_60),(62,ty_62),(64,ty_64),(65,ty_65),(67,ty_67),(69,ty_69),(71,ty_71),(73,ty_73),(74,ty_74),(75,ty_75),(76,ty_76),(77,ty_77),(78,ty_78),(79,ty_79),(81,ty_81),(82,ty_82),(83,ty_83),(84,ty_84),(85,ty_85),(86,ty_86),(88,ty_88),(89,ty_89),(90,ty_90),(91,ty_91),(92,ty_92),(93,ty_93),(94,ty_94),(95,ty_95),(96,ty_96),(97,ty_97),(98,ty_98),(99,ty_99),(100,ty_100),(101,ty_101),(102,ty_102),(103,ty_103),(104,ty_104),(105,ty_105),(106,ty_106),(107,ty_107),(108,ty_108),(109,ty_109),(110,ty_110),(111,ty_111),(112,ty_112),(113,ty_113),(114,ty_114),(115,ty_115),(116,ty_116),(117,ty_117),(118,ty_118),(119,ty_119),(121,ty_121),(122,ty_122),(123,ty_123),(124,ty_124),(125,ty_125),(126,ty_126),(127,ty_127),(128,ty_128),(129,ty_129),(130,ty_130),(131,ty_131),(132,ty_132),(133,ty_133),(134,ty_134),(135,ty_135),(136,ty_136),(137,ty_137),(138,ty_138),(139,ty_139),(140,ty_140),(142,ty_142),(143,ty_143),(144,ty_144),(145,ty_145),(146,ty_146),(147,ty_147),(148,ty_148),(149,ty_149),(150,ty_150),(151,ty_151),(152,ty_152),(153,ty_153),(154,ty_154),(156,ty_156),(157,ty_157),(158,ty_158),(159,ty_159),(160,ty_160),(161,ty_161),(162,ty_162),(163,ty_163),(164,ty_164),(165,ty_165),(166,ty_166),(167,ty_167),(168,ty_168),(169,ty_169),(170,ty_170),(171,ty_171),(172,ty_172),(173,ty_173),(174,ty_174),(175,ty_175),(176,ty_176),(177,ty_177),(178,ty_178),(179,ty_179),(181,ty_181),(182,ty_182),(183,ty_183),(184,ty_184),(185,ty_185),(186,ty_186),(187,ty_187),(189,ty_189),(190,ty_190),(191,ty_191),(192,ty_192),(193,ty_193),(194,ty_194),(195,ty_195),(196,ty_196),(197,ty_197),(198,ty_198),(199,ty_199),(200,ty_200),(201,ty_201),(202,ty_202),(204,ty_204),(205,ty_205),(206,ty_206),(207,ty_207),(208,ty_208),(209,ty_209),(210,ty_210),(211,ty_211),(212,ty_212),(213,ty_213),(214,ty_214),(216,ty_216),(217,ty_217),(218,ty_218),(220,ty_220),(221,ty_221),(222,ty_222),(223,ty_223),(224,ty_224),(225,ty_225),(226,ty_226),(227,ty_227),(228,ty_228),(229,ty_229),(230,ty_230),(232,ty_232),(233,ty_233),(234,ty_234),(235,ty_235),(237,ty_237),(238,ty_238),(239,ty_239),(240,ty_240),(242,ty_242),(243,ty_243),(245,ty_245),(246,ty_246),(247,ty_247),(248,ty_248),(249,ty_249),(250,ty_250),(251,ty_251),(252,ty_252),(253,ty_253),(254,ty_254),(255,ty_255),(256,ty_256),(257,ty_257),(258,ty_258),(259,ty_259),(260,ty_260),(261,ty_261),(262,ty_262),(263,ty_263),(264,ty_264),(265,ty_265),(266,ty_266),(267,ty_267),(268,ty_268),(269,ty_269),(270,ty_270),(271,ty_271),(272,ty_272),(273,ty_273),(274,ty_274),(275,ty_275),(276,ty_276),(277,ty_277),(278,ty_278),(279,ty_279),(280,ty_280),(281,ty_281),(282,ty_282),(283,ty_283),(284,ty_284),(285,ty_285),(286,ty_286),(287,ty_287),(288,ty_288),(289,ty_289),(290,ty_290),(291,ty_291),(292,ty_292),(293,ty_293),(294,ty_294),(295,ty_295),(296,ty_296),(297,ty_297),(298,ty_298),(299,ty_299),(300,ty_300),(301,ty_301),(302,ty_302),(303,ty_303),(304,ty_304),(305,ty_305),(306,ty_306),(307,ty_307),(308,ty_308),(309,ty_309),(310,ty_310),(311,ty_311),(312,ty_312),(313,ty_313),(314,ty_314),(315,ty_315),(316,ty_316),(317,ty_317),(318,ty_318),(319,ty_319),(320,ty_320),(321,ty_321),(322,ty_322),(323,ty_323),(324,ty_324),(325,ty_325),(326,ty_326),(327,ty_327),(328,ty_328),(329,ty_329),(330,ty_330),(331,ty_331),(332,ty_332),(333,ty_333),(334,ty_334),(335,ty_335),(336,ty_336),(337,ty_337),(338,ty_338),(339,ty_339),(343,ty_343),(344,ty_344),(345,ty_345),(346,ty_346),(347,ty_347),(348,ty_348),(349,ty_349),(350,ty_350),(351,ty_351)]
def TT:Nat→Option Ty:=zpw tabL
theorem tok:TOK Tryz.prog TT:=tok_tab (by kernel_rfl)
theorem yzi:Tryz.prog.follows .mixedOrders=true:=by kernel_rfl
end
section
open Go.RowKit
variable {N:Nat} {ops:Array Oper} {lf:Oper→Bool} {Q:SS→Prop} {t:List (Nat × AV)} {h:List (Nat × Option LObj)} {rest:List Oper} {d:Nat} {op:Op} {ty:TypeId} {pos:String} {af:Array Edge} {gd:Option (Nat × Bool)} {r:AV}
theorem zI {z:Int} (k:Lex Tryz.prog N ops lf Q rest (S ((d,.v (.int .i64 z))::t) h)) (hr:yqd TT t h op ty=some (.v (.int .i64 (IntKind.i64.wrap z))):=by rfl) (h0:-9223372036854775808≤z∧z≤9223372036854775807:=by constructor <;> omega) (hw:yaj ops (look t) ⟨some d,op,ty,pos,af,gd⟩=some true:=by rfl) (hd:Nat.blt d N=true:=by rfl):Lex Tryz.prog N ops lf Q (⟨some d,op,ty,pos,af,gd⟩::rest) (S t h):=L_int tok hr h0 hw hd k
theorem zL {ti e es eb sz z:Nat} {ea ag:Bool} {ez z0:List Value} {x:Operand} {α:Type} {f:α→List AV} {l:List α} (k:Lex Tryz.prog N ops lf Q rest (S ((d,.v (.int .i64 l.length))::t) h)) (hk:TT ti=some ⟨.slc e es ea eb ez,sz,ag,z0⟩:=by rfl) (hx:evF (look t) x=some (.sl z (l.map f)):=by rfl) (hw:yaj ops (look t) ⟨some d,.call { callee:=.builtin .len,args:=#[x],argTypes:=#[ti] },ty,pos,af,gd⟩=some true:=by rfl) (hd:Nat.blt d N=true:=by rfl):Lex Tryz.prog N ops lf Q (⟨some d,.call { callee:=.builtin .len,args:=#[x],argTypes:=#[ti] },ty,pos,af,gd⟩::rest) (S t h):=L_lenMap tok hk hx hw hd k
theorem zC  (k:Lex Tryz.prog N ops lf Q rest (S ((d,r)::t) h)) (hr:yqd TT t h op ty=some r:=by rfl) (hw:yaj ops (look t) ⟨some d,op,ty,pos,af,gd⟩=some true:=by rfl) (hd:Nat.blt d N=true:=by rfl):Lex Tryz.prog N ops lf Q (⟨some d,op,ty,pos,af,gd⟩::rest) (S t h):=zgm tok hr hw hd k
theorem zK (k:Lex Tryz.prog N ops lf Q rest (S ((d,.v undef)::t) h)) (hw:yaj ops (look t) ⟨some d,op,ty,pos,af,gd⟩=some false:=by rfl) (hd:Nat.blt d N=true:=by rfl):Lex Tryz.prog N ops lf Q (⟨some d,op,ty,pos,af,gd⟩::rest) (S t h):=zuw hw hd k
theorem zB {elem:TypeId} {x:Operand} {y:AV} {cs:List AV} (k:Lex Tryz.prog N ops lf Q rest (S ((d,.lp d 0)::t) ((d,some (.cells cs))::h))) (hx:evF (look t) x=some y:=by rfl) (hcs:ydq y=some cs:=by rfl) (h1:ydg d t=true:=by rfl) (h2:ybp d h=true:=by rfl) (hm:ment.mentL d cs=false:=by rfl) (hl:lf ⟨some d,.box elem x,ty,pos,af,gd⟩=true:=by rfl) (hw:yaj ops (look t) ⟨some d,.box elem x,ty,pos,af,gd⟩=some true:=by rfl) (hd:Nat.blt d N=true:=by rfl):Lex Tryz.prog N ops lf Q (⟨some d,.box elem x,ty,pos,af,gd⟩::rest) (S t h):=L_box hx hcs h1 h2 hm hl hw hd k
theorem zA {elem:TypeId} {y:Ty} (k:Lex Tryz.prog N ops lf Q rest (S ((d,.lp d 0)::t) ((d,some (.cells (ykq y.zero)))::h))) (hy:TT elem=some y:=by rfl) (hone:y.zero.all Value.oneCell'=true:=by rfl) (h1:ydg d t=true:=by rfl) (h2:ybp d h=true:=by rfl) (hl:lf ⟨some d,.alloc elem,ty,pos,af,gd⟩=true:=by rfl) (hw:yaj ops (look t) ⟨some d,.alloc elem,ty,pos,af,gd⟩=some true:=by rfl) (hd:Nat.blt d N=true:=by rfl):Lex Tryz.prog N ops lf Q (⟨some d,.alloc elem,ty,pos,af,gd⟩::rest) (S t h):=zkg tok hy hone h1 h2 hl hw hd k
theorem zS {ti:Nat} {y:Ty} {x v:Operand} {id off:Nat} {xs cs ys:List AV} {u:AV} (k:Lex Tryz.prog N ops lf Q rest (S t ((id,some (.cells ys))::h))) (hy:TT ti=some y:=by rfl) (hx:evF (look t) x=some (.lp id off):=by rfl) (hv:evF (look t) v=some u:=by rfl) (hcs:ydq u=some cs:=by rfl) (hcl:Nat.beq cs.length y.size=true:=by rfl) (hh:hlook h id=some (.cells xs):=by rfl) (hsp:yhw off cs xs=some ys:=by rfl) (hl:lf ⟨none,.store ti x v,ty,pos,af,gd⟩=true:=by rfl) (hw:yaj ops (look t) ⟨none,.store ti x v,ty,pos,af,gd⟩=some true:=by rfl):Lex Tryz.prog N ops lf Q (⟨none,.store ti x v,ty,pos,af,gd⟩::rest) (S t h):=L_store tok hy hx hv hcs hcl hh hsp hl hw k
theorem zU {ti:Nat} {y:Ty} {parts:List (Nat × Operand)} {ps:List (Nat × AV)} (k:Lex Tryz.prog N ops lf Q rest (S ((d,r)::t) h)) (hy:TT ti=some y:=by rfl) (hone:y.zero.all Value.oneCell'=true:=by rfl) (hps:evP (evF (look t)) parts=some ps:=by rfl) (hr:zgw TT ti ps=some r:=by rfl) (hw:yaj ops (look t) ⟨some d,.build ti parts.toArray,ty,pos,af,gd⟩=some true:=by rfl) (hd:Nat.blt d N=true:=by rfl):Lex Tryz.prog N ops lf Q (⟨some d,.build ti parts.toArray,ty,pos,af,gd⟩::rest) (S t h):=L_build tok hy hone hps hr hw hd k
theorem zV {ti e es eb sz len:Nat} {ea ag:Bool} {ez z:List Value} {parts:List (Nat × Operand)} {ps:List (Nat × AV)} {ys:List AV} {rows:List (List AV)} (k:Lex Tryz.prog N ops lf Q rest (S ((d,.sl es rows)::t) h)) (hk:TT ti=some ⟨.slc e es ea eb ez,sz,ag,z⟩:=by rfl) (hone:ez.all Value.oneCell'=true:=by rfl) (hps:evP (evF (look t)) parts=some ps:=by rfl) (hf:ywd (fun i=>some (i * es,es)) (yna len (ykq ez)) ps=some ys:=by rfl) (hpu:yav.pureL ys=true:=by rfl) (hch:yod es len ys=some rows:=by rfl) (hlim:Nat.ble (len * es) 16777216=true:=by rfl) (hw:yaj ops (look t) ⟨some d,.buildSlice ti len parts.toArray,ty,pos,af,gd⟩=some true:=by rfl) (hd:Nat.blt d N=true:=by rfl):Lex Tryz.prog N ops lf Q (⟨some d,.buildSlice ti len parts.toArray,ty,pos,af,gd⟩::rest) (S t h):=L_buildSlice tok hk hone hps hf hpu hch hlim hw hd k
theorem zF {f:Nat} {caps:List Operand} {xs:List AV} (k:Lex Tryz.prog N ops lf Q rest (S ((d,.fn f xs)::t) h)) (hx:evL (evF (look t)) caps=some xs:=by rfl) (hw:yaj ops (look t) ⟨some d,.makeFunc (.func f) #[] caps.toArray,ty,pos,af,gd⟩=some true:=by rfl) (hd:Nat.blt d N=true:=by rfl):Lex Tryz.prog N ops lf Q (⟨some d,.makeFunc (.func f) #[] caps.toArray,ty,pos,af,gd⟩::rest) (S t h):=L_makeFunc hx hw hd k
theorem zX {ti e es eb sz:Nat} {ea ag:Bool} {ez z:List Value} {x y:Operand} {ki:IntKind} {i:Int} {rows:List (List AV)} {row:List AV} (k:Lex Tryz.prog N ops lf Q rest (S ((d,.dp row 0)::t) h)) (hk:TT ti=some ⟨.slc e es ea eb ez,sz,ag,z⟩:=by rfl) (hx:evF (look t) x=some (.sl es rows):=by rfl) (hy:evF (look t) y=some (.v (.int ki i)):=by rfl) (h0:0≤i:=by omega) (hrow:rows[i.toNat]?=some row:=by first|exact row_map (by assumption)|exact row_mapI (by assumption)) (hw:yaj ops (look t) ⟨some d,.indexAddr ti x y,ty,pos,af,gd⟩=some true:=by rfl) (hd:Nat.blt d N=true:=by rfl):Lex Tryz.prog N ops lf Q (⟨some d,.indexAddr ti x y,ty,pos,af,gd⟩::rest) (S t h):=yny tok hk hx hy h0 hrow hw hd k
theorem zR {Q:Exit→SS→Prop} {s:SS} {id:Nat} {l:List Oper} (k:Lex Tryz.prog N l.toArray lfT (Q .normal) l s) (hn:yga l=true:=by rfl):A Tryz.prog N (.region id l.toArray false) Q s:=yci (lf:=lfT) hn k
theorem zD {Q:Exit→SS→Prop} {s:SS} {id:Nat} {l:List Oper} (k:Lex Tryz.prog N l.toArray lf0 (Q .normal) l s) (hB:zmh lf0 l=true:=by kernel_rfl) (hD:yql N l=true:=by rfl):A Tryz.prog N (.region id l.toArray true) Q s:=yqe (lf:=lf0) yzi hB hD k
theorem zT {Q:Exit→SS→Prop} {s:SS} {c:Operand} {x y:Code} (k:A Tryz.prog N x Q s) (hc:evF s.t c=some (.v (.bool true)):=by rfl):A Tryz.prog N (.cond c x y) Q s:=yac hc (fun _=>k) (fun e=>by cases e)
theorem zE {Q:Exit→SS→Prop} {s:SS} {c:Operand} {x y:Code} (k:A Tryz.prog N y Q s) (hc:evF s.t c=some (.v (.bool false)):=by rfl):A Tryz.prog N (.cond c x y) Q s:=yac hc (fun e=>by cases e) (fun _=>k)
theorem ykd {P:Program} {ty:TypeId} {h:Nat→Option LObj} {ρ:Operand→Option AV} {x:Operand} {row:List AV} {off:Nat} (hx:ρ x=some (.dp row off)):ybo P h ρ (.nilCheck x) ty (.dp row off):=
 yam fun B ok0 lv w a o ho hty hi hops=>by
  have hr:=hops x _ (by simp [Op.operands]) hx
  obtain ⟨g,q,hv,_⟩:=yxx hr
  exact ⟨a.eval x,by simp [execOp,ho,hv],hr⟩
theorem zN {x:Operand} {row:List AV} {off:Nat} (k:Lex Tryz.prog N ops lf Q rest (S ((d,.dp row off)::t) h)) (hx:evF (look t) x=some (.dp row off):=by rfl) (hw:yaj ops (look t) ⟨some d,.nilCheck x,ty,pos,af,gd⟩=some true:=by rfl) (hd:Nat.blt d N=true:=by rfl):Lex Tryz.prog N ops lf Q (⟨some d,.nilCheck x,ty,pos,af,gd⟩::rest) (S t h):=ycc (ykd hx) hw hd k
structure Zk (q:Prop):Prop where
 out:q
theorem zy {p q:Prop} (k:q) (h:Zk q→p:=by intro hq;(first|refine zI ?_|refine zL ?_|refine zC ?_|refine yes ?_|refine ydt ?_|refine zR ?_|refine zD ?_|refine zK ?_|refine zB ?_|refine zA ?_|refine zS ?_|refine zU ?_|refine zV ?_|refine zF ?_|with_reducible refine ybh ?_|with_reducible refine ybw ?_|refine yby ?_|refine ybt ?_|refine yde ?_|refine zT ?_|refine zE ?_|refine zX ?_|refine yiz rfl rfl rfl rfl ?_|refine zN ?_);(repeat (first|refine zI ?_|refine zL ?_|refine zC ?_|refine yes ?_|refine ydt ?_|refine zR ?_|refine zD ?_|refine zK ?_|refine zB ?_|refine zA ?_|refine zS ?_|refine zU ?_|refine zV ?_|refine zF ?_|with_reducible refine ybh ?_|with_reducible refine ybw ?_|refine yby ?_|refine ybt ?_|refine yde ?_|refine zT ?_|refine zE ?_|refine zX ?_|refine yiz rfl rfl rfl rfl ?_|refine zN ?_));exact hq.out):p:=h ⟨k⟩
theorem zw {p q:Prop} (k:q) (h:Zk q→p:=by intro hq;(first|refine zI ?_|refine zL ?_|refine zC ?_|refine yes ?_|refine ydt ?_|refine zR ?_|refine zK ?_|refine zB ?_|refine zA ?_|refine zS ?_|refine zU ?_|refine zV ?_|refine zF ?_|with_reducible refine ybh ?_|with_reducible refine ybw ?_|refine yby ?_|refine ybt ?_|refine yde ?_|refine zT ?_|refine zE ?_|refine zX ?_|refine yiz rfl rfl rfl rfl ?_|refine zN ?_);(repeat (first|refine zI ?_|refine zL ?_|refine zC ?_|refine yes ?_|refine ydt ?_|refine zR ?_|refine zK ?_|refine zB ?_|refine zA ?_|refine zS ?_|refine zU ?_|refine zV ?_|refine zF ?_|with_reducible refine ybh ?_|with_reducible refine ybw ?_|refine yby ?_|refine ybt ?_|refine yde ?_|refine zT ?_|refine zE ?_|refine zX ?_|refine yiz rfl rfl rfl rfl ?_|refine zN ?_));exact hq.out):p:=h ⟨k⟩
theorem zo {p q:Prop} (k:q) (h:Zk q→p:=by intro hq;(first|refine zI ?_|refine zL ?_|refine zC ?_|refine zK ?_|refine zB ?_|refine zA ?_|refine zS ?_|refine zU ?_|refine zV ?_|refine zF ?_|refine zX ?_|refine yes ?_|refine yiz rfl rfl rfl rfl ?_|refine zN ?_);(repeat (first|refine zI ?_|refine zL ?_|refine zC ?_|refine zK ?_|refine zB ?_|refine zA ?_|refine zS ?_|refine zU ?_|refine zV ?_|refine zF ?_|refine zX ?_|refine yes ?_|refine yiz rfl rfl rfl rfl ?_|refine zN ?_));exact hq.out):p:=h ⟨k⟩
theorem zt {p q:Prop} (k:q) (h:Zk q→p:=by intro hq;(repeat (first|with_reducible refine ybw ?_|with_reducible refine ybh ?_|refine ybt ?_|refine ydt ?_|refine yby ?_));exact hq.out):p:=h ⟨k⟩
theorem zs {t t':List (Nat × AV)} (h:zbc t t':=by (repeat (first|exact subT_nil|refine yas rfl ?_))):zbc t t':=h
theorem zh {t t':List (Nat × Option LObj)} (h:yuy t t':=by first|exact yak|exact yad rfl yak|exact yad rfl (yad rfl yak)|exact yad rfl (yad rfl (yad rfl yak))|exact yad rfl (yad rfl (yad rfl (yad rfl yak)))):yuy t t':=h
end
section
open Go.RowKit
def yah (l:List Int):AV:=.sl 1 (l.map fun z=>[i64 z])
def ycs (l:Lk):List AV:=[i64 l.1,i64 l.2]
def ygx (l:List Lk):AV:=.sl 2 (l.map ycs)
def yau (l:List (List Lk)):AV:=.sl 1 (l.map fun x=>[ygx x])
def ynl (g:GraphD):AV:=.agg [yah g.ids,yau g.ports]
def yhm (c:List (List Int)):AV:=.sl 1 (c.map fun x=>[yah x])
def okW (w:World) (g:Nat):Prop:=g < w.heap.size
theorem zfp {ok:Nat→Prop} {w:World} {lv:Live} {a:AV} {cs:List Value} (h:ybm ok w lv [a] cs):∃ u,cs=[u]∧Rel ok w lv a u:=by
 match cs,h with
 | [u],h=>exact ⟨u,rfl,h.2 0 _ _ rfl rfl⟩
theorem yrq {ok:Nat→Prop} {w:World} {lv:Live} {a b:AV} {cs:List Value} (h:ybm ok w lv [a,b] cs):∃ u v,cs=[u,v]∧Rel ok w lv a u∧Rel ok w lv b v:=by
 match cs,h with
 | [u,v],h=>exact ⟨u,v,rfl,h.2 0 _ _ rfl rfl,h.2 1 _ _ rfl rfl⟩
theorem zli {ok:Nat→Prop} {w:World} {lv:Live} {a b c:AV} {cs:List Value} (h:ybm ok w lv [a,b,c] cs):∃ u v x,cs=[u,v,x]∧Rel ok w lv a u∧Rel ok w lv b v∧Rel ok w lv c x:=by
 match cs,h with
 | [u,v,x],h=>exact ⟨u,v,x,rfl,h.2 0 _ _ rfl rfl,h.2 1 _ _ rfl rfl,h.2 2 _ _ rfl rfl⟩
theorem yee {P:Program} {f:FuncId} {args:List AV} {x:Value} (hb:ynx P f) (h:∀ (w:World) (us:List Value) (ok:Nat→Prop),(∀ g,ok g→g < w.heap.size)→ybm ok w (fun _=>none) args us→Calls P f us.toArray w fun e w'=>e=.returned x∧Below w.heap.size w w'):Con P f args (.v x):=
 ⟨hb,rfl,fun ok0 w us _ hok hr=>(h w us ok0 hok hr).mono fun e w' ⟨h1,h2⟩=>⟨x,h1,.v x,h2⟩⟩
end
set_option maxHeartbeats 8000000
section
open Go.RowKit
def zej (p:Int × Int):List AV:=[i64 p.1,i64 p.2]
def zhg (tbl:List (List (Int × Int))):AV:=.sl 1 (tbl.map fun r=>[.sl 2 (r.map zej)])
def ynp:AV:=.v (.slice none 0 0)
theorem zvu (x:AV) (n:Nat):yna n [x]=List.replicate n x:=by
 induction n with
 | zero=>rfl
 | succ n ih=>simp [yna,ih,List.replicate_succ]
theorem ybj {α:Type} {l:List α} {i:Nat} {x:α} (h:l[i]?=some x):l.take (i+1)=l.take i++[x]:=by
 rw [List.take_add_one,h];rfl
theorem set_fill {α:Type} {l:List α} {m j:Nat} {x z:α} (hl:l.length=m) (h:l[j]?=some x):(l.take j++List.replicate (m - j) z).set j x=l.take (j+1)++List.replicate (m - (j+1)) z:=by
 have hj:=(List.getElem?_eq_some_iff.1 h).1
 have e:(l.take j).length=j:=by rw [List.length_take];omega
 rw [List.set_append_right _ _ (Nat.le_of_eq e),e,Nat.sub_self,show m - j=(m - (j+1))+1 by omega,List.replicate_succ,ybj h]
 simp
theorem set_last {α:Type} {l:List α} {k:Nat} {x y:α} (h:l.length=k):(l++[x]).set k y=l++[y]:=by
 rw [List.set_append_right _ _ (Nat.le_of_eq h),h,Nat.sub_self];rfl
def zgj (c:List (List Int)):List (List AV):=c.map fun r=>r.map i64
theorem ygg (r:List Int):(r.map fun x=>[i64 x]).flatten=r.map i64:=by
 induction r with
 | nil=>rfl
 | cons x r ih=>simp [ih]
theorem zmj (c:List (List Int)) (hn:c.length≤1000) (hm:∀ r∈c,r.length≤1000):ywc Tryz.prog 84 [yhm c] (fun _=>none) (.ls 8 1 c.length) (hlook (yec 8 1 (zgj c) [])):=by
 refine conO_of tok Tryz.func84 rfl rfl Tryz.ntmps84 Tryz.results84 rfl rfl ?_
 (repeat (first|refine zy ?_|refine zbm tok rfl rfl rfl rfl (by constructor <;> omega) rfl rfl rfl rfl rfl ?_))
 refine yxk 8 (List.replicate c.length ynp) rfl (zvu _ _) ?_
 refine ygb (α:=Nat) (fun k=>[(11,i64 k),(10,i64 c.length),(9,yhm c),(3,.ls 8 1 c.length)]) (fun k=>yec 8 1 (zgj (c.take k)) (List.replicate (c.length - k) ynp)) (fun k=>c.length - k) (fun k=>k≤c.length) 0 (by omega) (by exact zs) (hsE (by simp only [yec,yfn,yqm,List.take_zero,List.nil_append,Nat.sub_zero,zgj,List.map_nil];exact ygz)) ?_
 intro k hk
 (try refine zy ?_)
 refine yac rfl (fun h=>?_) (fun h=>?_)
 ·simp at h
  obtain ⟨r,hr⟩:=ycg (show k < c.length by omega)
  have hrm:=hm r (List.mem_of_getElem? hr)
  have htk:(zgj (c.take k)).length=k:=by simp [zgj];omega
  (try refine zy ?_)
  refine L_appendNilI tok (fam 8 k) rfl rfl rfl (by intro c hc;rw [ygg] at hc;obtain ⟨x,_,rfl⟩:=List.mem_map.1 hc;rfl) (by constructor <;> simp <;> omega) (zhu (f:=[]) rfl rfl rfl htk.symm (zla ynp rfl _)) rfl rfl rfl ?_
  refine ybv tok rfl rfl (by rw [yap (yef (by omega))];exact yhb) rfl (by omega) (by omega) rfl rfl ?_
  refine yrx tok rfl rfl rfl rfl rfl (by rw [yap (yef (by omega))];exact yhb) (by rw [List.length_append,yej,htk,List.length_replicate];simp;omega) rfl rfl ?_
  refine zuv (h':=yec 8 1 (zgj (c.take (k+1))) (List.replicate (c.length - (k+1)) ynp)) ?_ ?_
  ·have hex:List.replicate (c.length - k) ynp=ynp::List.replicate (c.length - (k+1)) ynp:=by rw [← List.replicate_succ];congr 1;omega
   rw [show ((k:Int).toNat * 1)=k by simp,ygg]
   exact zsh (f:=[]) (a:=ynp) rfl rfl rfl htk.symm (by simp) hex (by rw [ybj hr];simp [zgj])
  (try refine zy ?_)
  refine zae (k+1) (by omega) (by omega) (by exact zs) (fun id o h=>h)
 ·simp at h
  obtain rfl:k=c.length:=by omega
  (try refine zy ?_)
  refine yae ⟨_,rfl,yng _,fun id o ho=>?_⟩
  rw [← List.take_length (l:=c)] at ho
  simpa [S] using ho
end
section
open Go.RowKit
def inB (v lo hi:Int):Bool:=decide (lo≤v) && decide (v≤hi)
theorem yyu (v lo hi:Int):Con Tryz.prog 47 [i64 v,i64 lo,i64 hi] (ybq (inB v lo hi)):=by
 refine yao Tryz.func47 rfl rfl Tryz.ntmps47 Tryz.results47 rfl rfl ?_
 (try refine zy ?_)
 refine yay 10 rfl (fun h=>?_) (fun h=>?_)
 ·(try refine zy ?_)
  refine yae ?_;refine ⟨_,rfl,?_⟩
  exact yag (by simp at h;simp [inB,h])
 ·(try refine zy ?_)
  refine yae ?_;refine ⟨_,rfl,?_⟩
  exact yag (by simp at h;simp [inB];omega)
theorem differentIDs_con (ids:List Int) (hlen:ids.length≤5000):Con Tryz.prog 101 [yah ids] (ybq (zkb ids)):=by
 refine yao Tryz.func101 rfl rfl Tryz.ntmps101 Tryz.results101 rfl rfl ?_
 (try refine zy ?_)
 refine zqi 3 ((ysa []).map ybq) rfl (by rw [bits_nil];rfl) (by intro y hy;obtain ⟨b,_,rfl⟩:=List.mem_map.1 hy;rfl) ?_
 refine ydi (α:=Nat) (fun k=>[(8,i64 k),(7,i64 ids.length),(6,yah ids),(3,.lp 3 0)]) (fun k=>[(3,some (.vec ((ysa (ids.take k)).map ybq)))]) (fun k=>ids.length - k) (fun k=>k≤ids.length∧zkb (ids.take k)=true) 0 ⟨by omega,rfl⟩ (by exact zs) (by exact zh) ?_
 intro k ⟨hk,hok⟩
 (try refine zy ?_)
 refine yac rfl (fun h=>?_) (fun h=>?_)
 ·simp at h
  obtain ⟨x,hx⟩:=ycg h
  (try refine zy ?_)
  refine yay 14 rfl (fun h1=>?_) (fun h1=>?_)
  ·simp at h1
   (try refine zy ?_)
   refine yae ?_;refine ⟨_,rfl,?_⟩
   exact yag (zew hx (by simp [idB];omega)).symm
  ·simp at h1
   (try refine zy ?_)
   refine yay 18 rfl (fun h2=>?_) (fun h2=>?_)
   ·simp at h2
    (try refine zy ?_)
    refine yae ?_;refine ⟨_,rfl,?_⟩
    exact yag (zew hx (by simp [idB];omega)).symm
   ·simp at h2
    (try refine zy ?_)
    refine ypa tok rfl rfl rfl (by simp [ysa]) rfl (by omega) (by omega) rfl rfl ?_
    refine yqy (r:=ybq (decide (x∈ids.take k))) tok rfl rfl rfl rfl (by simp [bits_get (ids.take k) x h1 h2]) rfl rfl ?_
    (try refine zy ?_)
    refine yac rfl (fun h3=>?_) (fun h3=>?_)
    ·simp at h3
     (try refine zy ?_)
     refine yae ?_;refine ⟨_,rfl,?_⟩
     exact yag (zck hx h3).symm
    ·simp at h3
     (try refine zy ?_)
     refine ypa tok rfl rfl rfl (by simp [ysa]) rfl (by omega) (by omega) rfl rfl ?_
     refine zeb tok rfl rfl rfl rfl rfl rfl (by simp [bits_len];omega) rfl rfl rfl ?_
     (try refine zy ?_)
     refine rnd (k+1) ⟨by omega,zia hx hok (by simp [idB];omega) h3⟩ (by omega) (by exact zs) ?_
     refine yad ?_ yak
     rw [yil hx,← bits_set _ x h1 h2,List.map_set]
     simp [hlook,ybq]
 ·simp at h
  obtain rfl:k=ids.length:=by omega
  (try refine zy ?_)
  refine yae ?_;refine ⟨_,rfl,?_⟩
  rw [List.take_length] at hok
  exact yag hok.symm
end
set_option maxHeartbeats 4000000
section
open Go.RowKit
def yjt (g:GraphD):Bool:=decide (g.ids.length≤30) && (decide (g.ports.length≤30) && g.ports.all fun l=>decide (l.length≤30))
theorem ydh (g:GraphD):yjt g=true↔g.ids.length≤30∧g.ports.length≤30∧∀ l∈g.ports,l.length≤30:=by
 unfold yjt;simp
theorem lightGraph_con (g:GraphD):Con Tryz.prog 39 [ynl g] (ybq (yjt g)):=by
 refine yao Tryz.func39 rfl rfl Tryz.ntmps39 Tryz.results39 rfl rfl ?_
 (try refine zy ?_)
 refine yay 8 rfl (fun h1=>?_) (fun h1=>?_)
 ·simp at h1
  (try refine zy ?_)
  refine yae ?_;refine ⟨_,rfl,?_⟩
  exact yag (by rw [eq_comm,← Bool.not_eq_true,ydh];omega)
 simp at h1
 (try refine zy ?_)
 refine yac rfl (fun h2=>?_) (fun h2=>?_)
 ·simp at h2
  (try refine zy ?_)
  refine yae ?_;refine ⟨_,rfl,?_⟩
  exact yag (by rw [eq_comm,← Bool.not_eq_true,ydh];omega)
 simp at h2
 (try refine zy ?_)
 refine ydi (α:=Nat) (fun k=>[(3,i64 k),(1,.lp 1 0)]) (fun k=>[(1,some (.cells [yah g.ids,yau g.ports]))]) (fun k=>g.ports.length - k) (fun k=>k≤g.ports.length∧∀ l∈g.ports.take k,l.length≤30) 0 ⟨by omega,by simp⟩ (by exact zs) (by exact zh) ?_
 intro k ⟨hk,hok⟩
 (try refine zy ?_)
 refine yac rfl (fun h=>?_) (fun h=>?_)
 ·simp at h
  obtain ⟨x,hx⟩:=ycg h
  (try refine zy ?_)
  refine yac rfl (fun h3=>?_) (fun h3=>?_)
  ·simp at h3
   (try refine zy ?_)
   refine yae ?_;refine ⟨_,rfl,?_⟩
   refine yag ?_
   rw [eq_comm,← Bool.not_eq_true,ydh]
   intro h4
   have:=h4.2.2 x (List.mem_of_getElem? hx)
   omega
  ·simp at h3
   (try refine zy ?_)
   refine rnd (k+1) ⟨by omega,?_⟩ (by omega) (by exact zs) (by exact zh)
   intro l hl
   rw [yil hx] at hl
   rcases List.mem_append.1 hl with hl|hl
   ·exact hok l hl
   ·simp at hl;subst hl;omega
 ·simp at h
  obtain rfl:k=g.ports.length:=by omega
  (try refine zy ?_)
  refine yae ?_;refine ⟨_,rfl,?_⟩
  rw [List.take_length] at hok
  exact yag (by rw [eq_comm,ydh];exact ⟨by omega,by omega,hok⟩)
theorem linksValid_con (l:List Lk) (v n:Nat) (hlen:l.length≤5000) (hn:n≤5000):Con Tryz.prog 90 [ygx l,i64 v,i64 n] (ybq (ygh n v l)):=by
 refine yao Tryz.func90 rfl rfl Tryz.ntmps90 Tryz.results90 rfl rfl ?_
 (try refine zy ?_)
 refine ydi (α:=Nat) (fun k=>[(7,i64 k),(0,ygx l),(1,i64 v),(2,i64 n)]) (fun k=>[]) (fun k=>l.length - k) (fun k=>k≤l.length∧ygh n v (l.take k)=true) 0 ⟨by omega,rfl⟩ (by exact zs) (by exact zh) ?_
 intro k ⟨hk,hok⟩
 (try refine zy ?_)
 refine yac rfl (fun h=>?_) (fun h=>?_)
 ·simp at h
  obtain ⟨x,hx⟩:=ycg h
  (repeat (first|refine zy ?_|refine yaf rfl rfl (yyu _ _ _) rfl rfl ?_))
  refine yay 24 rfl (fun h1=>?_) (fun h1=>?_)
  ·(try refine zy ?_)
   refine yae ?_;refine ⟨_,rfl,?_⟩
   refine yag (ygi hx ?_).symm
   rw [← Bool.not_eq_true,ybk]
   simp [inB] at h1
   omega
  ·(try refine zy ?_)
   refine yay 33 rfl (fun h2=>?_) (fun h2=>?_)
   ·(try refine zy ?_)
    refine yae ?_;refine ⟨_,rfl,?_⟩
    refine yag (ygi hx ?_).symm
    rw [← Bool.not_eq_true,ybk]
    simp at h2
    omega
   ·(repeat (first|refine zy ?_|refine yaf rfl rfl (yyu _ _ _) rfl rfl ?_))
    refine yac rfl (fun h3=>?_) (fun h3=>?_)
    ·(try refine zy ?_)
     refine yae ?_;refine ⟨_,rfl,?_⟩
     refine yag (ygi hx ?_).symm
     rw [← Bool.not_eq_true,ybk]
     simp [inB] at h3
     omega
    ·(try refine zy ?_)
     have hlk:zie n v x=true:=by
      rw [ybk]
      simp [inB] at h1 h2 h3
      omega
     refine ydi (α:=Nat) (fun j=>[(8,i64 j),(7,i64 k),(0,ygx l),(1,i64 v),(2,i64 n)]) (fun k=>[]) (fun j=>k - j) (fun j=>j≤k∧∀ (i:Nat) (y:Lk),i < j→l[i]?=some y→y.1≠x.1) 0 ⟨by omega,by omega⟩ (by exact zs) (by exact zh) ?_
     intro j ⟨hj,hjo⟩
     (try refine zy ?_)
     refine yac rfl (fun h4=>?_) (fun h4=>?_)
     ·simp at h4
      obtain ⟨y,hy⟩:=ycg (show j < l.length by omega)
      (try refine zy ?_)
      refine yac rfl (fun h5=>?_) (fun h5=>?_)
      ·simp at h5
       (try refine zy ?_)
       refine yae ?_;refine ⟨_,rfl,?_⟩
       exact yag (yvr h4 hy hx h5).symm
      ·simp at h5
       (try refine zy ?_)
       refine rnd (j+1) ⟨by omega,fun i z hi hz=>?_⟩ (by omega) (by exact zs) (by exact zh)
       rcases Nat.lt_or_ge i j with h6|h6
       ·exact hjo i z h6 hz
       ·obtain rfl:i=j:=by omega
        rw [hy] at hz;cases hz;exact h5
     ·simp at h4
      obtain rfl:j=k:=by omega
      (try refine zy ?_)
      refine rnd (j+1) ⟨by omega,yzc hx hok hlk hjo⟩ (by omega) (by exact zs) (by exact zh)
 ·simp at h
  obtain rfl:k=l.length:=by omega
  (try refine zy ?_)
  refine yae ?_;refine ⟨_,rfl,?_⟩
  rw [List.take_length] at hok
  exact yag hok.symm
theorem port_con (g:GraphD) (v:Int) (u:Int) (ls:List Lk) (h0:0≤v) (hv:g.ports[v.toNat]?=some ls) (hlen:ls.length≤5000):Con Tryz.prog 91 [ynl g,i64 v,i64 u] (i64 (yfj ls u)):=by
 refine yao Tryz.func91 rfl rfl Tryz.ntmps91 Tryz.results91 rfl rfl ?_
 (try refine zy ?_)
 refine ydi (α:=Nat) (fun k=>[(7,i64 k),(3,.lp 3 0),(1,i64 v),(2,i64 u)]) (fun k=>[(3,some (.cells [yah g.ids,yau g.ports]))]) (fun k=>ls.length - k) (fun k=>k≤ls.length∧∀ (j:Nat) (y:Lk),j < k→ls[j]?=some y→y.1≠u) 0 ⟨by omega,by omega⟩ (by exact zs) (by exact zh) ?_
 intro k ⟨hk,hok⟩
 (try refine zy ?_)
 refine yac rfl (fun h=>?_) (fun h=>?_)
 ·simp at h
  obtain ⟨x,hx⟩:=ycg h
  (try refine zy ?_)
  refine yac rfl (fun h1=>?_) (fun h1=>?_)
  ·simp at h1
   (try refine zy ?_)
   refine yae ?_;refine ⟨_,rfl,?_⟩
   exact yai (yzr hx h1 hok).symm
  ·simp at h1
   (try refine zy ?_)
   refine rnd (k+1) ⟨by omega,fun j y hj hy=>?_⟩ (by omega) (by exact zs) (by exact zh)
   rcases Nat.lt_or_ge j k with h6|h6
   ·exact hok j y h6 hy
   ·obtain rfl:j=k:=by omega
    rw [hx] at hy;cases hy;exact h1
 ·simp at h
  obtain rfl:k=ls.length:=by omega
  (try refine zy ?_)
  refine yae ?_;refine ⟨_,rfl,?_⟩
  exact yai (yzq fun j y hy=>hok j y (List.getElem?_eq_some_iff.1 hy).1 hy).symm
end
set_option maxHeartbeats 8000000
section
open Go.RowKit
theorem yoz {g:GraphD} (h:¬ (1≤g.ports.length∧g.ports.length≤24∧g.ids.length=g.ports.length)):ybs g=false:=by
 rw [← Bool.not_eq_true,ygn];intro h1;exact h ⟨h1.1,h1.2.1,h1.2.2.1⟩
theorem zat {g:GraphD} (h:zkb g.ids=false):ybs g=false:=by
 rw [← Bool.not_eq_true,ygn];intro h1;rw [h1.2.2.2.1] at h;cases h
theorem zau {g:GraphD} {v:Nat} {ls:List Lk} (hv:g.ports[v]?=some ls) (h:ygh g.ports.length v ls=false):ybs g=false:=by
 rw [← Bool.not_eq_true,ygn];intro h1;rw [ygk] at h1;rw [h1.2.2.2.2.1 v ls hv] at h;cases h
theorem zjx {g:GraphD} {v:Nat} {ls:List Lk} {l:Lk} (hv:g.ports[v]?=some ls) (hl:l∈ls) (h:ydd (g.ports.getD l.1.toNat []) v≠l.2):ybs g=false:=by
 rw [← Bool.not_eq_true,ygn];intro h1;rw [ytj] at h1;exact h (h1.2.2.2.2.2 v ls hv l hl)
def zzs (g:GraphD):Prop:=g.ids.length≤5000∧g.ports.length≤5000∧∀ l∈g.ports,l.length≤5000
theorem zsk {g:GraphD} (h:yjt g=true):zzs g:=by
 obtain ⟨h1,h2,h3⟩:=(ydh g).1 h
 exact ⟨by omega,by omega,fun l hl=>by have:=h3 l hl;omega⟩
theorem rvalid_con' (g:GraphD) (hl:zzs g):Con Tryz.prog 40 [ynl g] (ybq (ybs g)):=by
 obtain ⟨hl1,hl2,hl3⟩:=hl
 refine yao Tryz.func40 rfl rfl Tryz.ntmps40 Tryz.results40 rfl rfl ?_
 (repeat (first|refine zy ?_|refine yaf rfl rfl (yyu _ _ _) rfl rfl ?_))
 refine yay 16 rfl (fun h1=>?_) (fun h1=>?_)
 ·(try refine zy ?_)
  refine yae ?_;refine ⟨_,rfl,?_⟩
  exact yag (yoz (by simp [inB] at h1;omega)).symm
 simp [inB] at h1
 (try refine zy ?_)
 refine yac rfl (fun h2=>?_) (fun h2=>?_)
 ·simp at h2
  (try refine zy ?_)
  refine yae ?_;refine ⟨_,rfl,?_⟩
  exact yag (yoz (by omega)).symm
 simp at h2
 (try refine zy ?_)
 refine ydi (α:=Nat) (fun k=>[(4,i64 k),(3,i64 g.ports.length),(1,.lp 1 0)]) (fun k=>[(1,some (.cells [yah g.ids,yau g.ports]))]) (fun k=>g.ports.length - k) (fun k=>k≤g.ports.length∧zkb (g.ids.take k)=true∧∀ (v:Nat) (ls:List Lk),v < k→g.ports[v]?=some ls→ygh g.ports.length v ls=true) 0 ⟨by omega,rfl,by omega⟩ (by exact zs) (by exact zh) ?_
 intro k ⟨hk,hok1,hok2⟩
 (try refine zy ?_)
 refine yac rfl (fun h=>?_) (fun h=>?_)
 ·simp at h
  obtain ⟨x,hx⟩:=ycg (show k < g.ids.length by omega)
  obtain ⟨ls,hls⟩:=ycg h
  have hll:=hl3 ls (List.mem_of_getElem? hls)
  (repeat (first|refine zy ?_|refine yaf rfl rfl (yyu _ _ _) rfl rfl ?_))
  refine yay 35 rfl (fun h3=>?_) (fun h3=>?_)
  ·(try refine zy ?_)
   refine yae ?_;refine ⟨_,rfl,?_⟩
   exact yag (zat (zew hx (by simp [inB] at h3;simp [idB];omega))).symm
  simp [inB] at h3
  (try refine zy ?_)
  refine yay 45 rfl (fun h4=>?_) (fun h4=>?_)
  ·simp at h4
   (try refine zy ?_)
   refine yae ?_;refine ⟨_,rfl,?_⟩
   refine yag (zau hls ?_).symm
   rw [← Bool.not_eq_true]
   intro h5
   have:=ydp h h5
   omega
  simp at h4
  (repeat (first|refine zy ?_|refine yaf rfl rfl (linksValid_con ls k g.ports.length (by omega) (by omega)) rfl rfl ?_))
  refine yac rfl (fun h5=>?_) (fun h5=>?_)
  ·(try refine zy ?_)
   refine yae ?_;refine ⟨_,rfl,?_⟩
   exact yag (zau hls (by simpa using h5)).symm
  simp at h5
  (try refine zy ?_)
  refine ydi (α:=Nat) (fun j=>[(5,i64 j),(4,i64 k),(3,i64 g.ports.length),(1,.lp 1 0)]) (fun k=>[(1,some (.cells [yah g.ids,yau g.ports]))]) (fun j=>k - j) (fun j=>j≤k∧x ∉ g.ids.take j) 0 ⟨by omega,by simp⟩ (by exact zs) (by exact zh) ?_
  intro j ⟨hj,hjo⟩
  (try refine zy ?_)
  refine yac rfl (fun h6=>?_) (fun h6=>?_)
  ·simp at h6
   obtain ⟨y,hy⟩:=ycg (show j < g.ids.length by omega)
   (try refine zy ?_)
   refine yac rfl (fun h7=>?_) (fun h7=>?_)
   ·simp at h7
    (try refine zy ?_)
    refine yae ?_;refine ⟨_,rfl,?_⟩
    refine yag (zat (zck hx ?_)).symm
    subst h7
    exact List.mem_of_getElem? (show (g.ids.take k)[j]?=some y by rw [List.getElem?_take,if_pos h6];exact hy)
   ·simp at h7
    (try refine zy ?_)
    refine rnd (j+1) ⟨by omega,?_⟩ (by omega) (by exact zs) (by exact zh)
    rw [yil hy]
    simp only [List.mem_append,List.mem_singleton,not_or]
    exact ⟨hjo,fun e=>h7 e.symm⟩
  ·simp at h6
   obtain rfl:j=k:=by omega
   (try refine zy ?_)
   refine rnd (j+1) ⟨by omega,zia hx hok1 (by simp [idB];omega) hjo,fun v ls' hv hls'=>?_⟩ (by omega) (by exact zs) (by exact zh)
   rcases Nat.lt_or_ge v j with h8|h8
   ·exact hok2 v ls' h8 hls'
   ·obtain rfl:v=j:=by omega
    rw [hls] at hls';cases hls';exact h5
 ·simp at h
  obtain rfl:k=g.ports.length:=by omega
  have hids:zkb g.ids=true:=by rw [show g.ports.length=g.ids.length by omega,List.take_length] at hok1;exact hok1
  have hports:yzs g.ports=true:=by rw [ygk];exact fun v ls hv=>hok2 v ls (List.getElem?_eq_some_iff.1 hv).1 hv
  clear hok1 hok2
  (try refine zy ?_)
  refine ydi (α:=Nat) (fun k=>[(6,i64 k),(3,i64 g.ports.length),(1,.lp 1 0)]) (fun k=>[(1,some (.cells [yah g.ids,yau g.ports]))]) (fun k=>g.ports.length - k) (fun k=>k≤g.ports.length∧∀ (v:Nat) (ls:List Lk),v < k→g.ports[v]?=some ls→∀ l∈ls,ydd (g.ports.getD l.1.toNat []) v=l.2) 0 ⟨by omega,by omega⟩ (by exact zs) (by exact zh) ?_
  intro k ⟨hk,hok⟩
  (try refine zy ?_)
  refine yac rfl (fun h3=>?_) (fun h3=>?_)
  ·simp at h3
   obtain ⟨ls,hls⟩:=ycg h3
   have hll:=hl3 ls (List.mem_of_getElem? hls)
   (try refine zy ?_)
   refine ydi (α:=Nat) (fun i=>[(7,i64 i),(6,i64 k),(3,i64 g.ports.length),(1,.lp 1 0)]) (fun k=>[(1,some (.cells [yah g.ids,yau g.ports]))]) (fun i=>ls.length - i) (fun i=>i≤ls.length∧∀ l∈ls.take i,ydd (g.ports.getD l.1.toNat []) k=l.2) 0 ⟨by omega,by simp⟩ (by exact zs) (by exact zh) ?_
   intro i ⟨hi,hio⟩
   (try refine zy ?_)
   refine yac rfl (fun h4=>?_) (fun h4=>?_)
   ·simp at h4
    obtain ⟨l,hlk⟩:=ycg h4
    have hlb:=(ybk _ _ _).1 (((ych _ _ _).1 ((ygk _).1 hports k ls hls)).1 l (List.mem_of_getElem? hlk))
    obtain ⟨os,hos⟩:=ycg (show l.1.toNat < g.ports.length by omega)
    have hol:=hl3 os (List.mem_of_getElem? hos)
    have hgd:g.ports.getD l.1.toNat []=os:=by rw [List.getD_eq_getElem?_getD,hos];rfl
    (repeat (first|refine zy ?_|refine yaf rfl rfl (port_con g l.1 k os (by omega) hos (by omega)) rfl rfl ?_))
    rcases yop os k with ⟨hp,hpn⟩|⟨q,y,hp,hy,hyk,hfd⟩
    ·refine yay 102 rfl (fun h5=>?_) (fun h5=>?_)
     ·(try refine zy ?_)
      refine yae ?_;refine ⟨_,rfl,?_⟩
      refine yag (zjx hls (List.mem_of_getElem? hlk) ?_).symm
      rw [hgd,zaw hpn]
      omega
     ·rw [hp] at h5;simp at h5
    ·have hwt:=zax hfd
     refine yay 102 rfl (fun h5=>?_) (fun h5=>?_)
     ·rw [hp] at h5;simp at h5;omega
     ·rw [hp]
      (try refine zy ?_)
      refine yac rfl (fun h6=>?_) (fun h6=>?_)
      ·(try refine zy ?_)
       refine yae ?_;refine ⟨_,rfl,?_⟩
       refine yag (zjx hls (List.mem_of_getElem? hlk) ?_).symm
       rw [hgd,hwt]
       simpa using h6
      ·simp at h6
       (try refine zy ?_)
       refine rnd (i+1) ⟨by omega,fun z hz=>?_⟩ (by omega) (by exact zs) (by exact zh)
       rw [yil hlk] at hz
       rcases List.mem_append.1 hz with hz|hz
       ·exact hio z hz
       ·simp at hz;subst hz;rw [hgd,hwt,h6]
   ·simp at h4
    obtain rfl:i=ls.length:=by omega
    rw [List.take_length] at hio
    (try refine zy ?_)
    refine rnd (k+1) ⟨by omega,fun v ls' hv hls'=>?_⟩ (by omega) (by exact zs) (by exact zh)
    rcases Nat.lt_or_ge v k with h8|h8
    ·exact hok v ls' h8 hls'
    ·obtain rfl:v=k:=by omega
     rw [hls] at hls';cases hls';exact hio
  ·simp at h3
   obtain rfl:k=g.ports.length:=by omega
   (try refine zy ?_)
   refine yae ?_;refine ⟨_,rfl,?_⟩
   refine yag ?_
   rw [eq_comm,ygn]
   exact ⟨by omega,by omega,by omega,hids,hports,(ytj _).2 fun v ls hv=>hok v ls (List.getElem?_eq_some_iff.1 hv).1 hv⟩
end
section
open Go.RowKit Go.Maps Go.WideMaps
theorem laidB:laidOutB Tryz.prog=true:=by kernel_rfl
theorem arr2:ArrKey Tryz.prog 136 3 2:=⟨Tryz.underlying136,by kernel_rfl,by kernel_rfl,by kernel_rfl⟩
theorem wide2:(match Tryz.prog.underlying 136 with|some (.array _ _)|some (.struct _)=>true|_=>false)=true:=by rw [Tryz.underlying136]
theorem row2:(136:TypeId) < Tryz.prog.types.size:=of_decide_eq_true (by kernel_rfl)
theorem zng:Keyed Tryz.prog 136:=Keyed.of_law (deep_law_laid laidB (m:=2) (by omega) row2 (by kernel_rfl) wide2)
def zba (v u:Int):Value:=.agg #[.int .i64 v,.int .i64 u]
theorem ysl {a b c d:Int} (h:zba a b=zba c d):a=c∧b=d:=by
 unfold zba at h;simpa using h
theorem typesPos:∃ m,Tryz.prog.types.size=m+1:=by
 have h:0 < Tryz.prog.types.size:=of_decide_eq_true (by kernel_rfl)
 exact ⟨Tryz.prog.types.size - 1,by omega⟩
theorem zoy {x:Int} (h:0≤x∧x≤5000):(Lit.int .i64 x).wf=true:=by
 have e1:IntKind.i64.min=-9223372036854775808:=by decide
 have e2:IntKind.i64.max=9223372036854775807:=by decide
 simp only [Lit.wf,Bool.and_eq_true,decide_eq_true_eq]
 omega
theorem ywt {v u:Int} (hv:0≤v∧v≤5000) (hu:0≤u∧u≤5000):∃ l,keyOf Tryz.prog 136 (zba v u)=some l:=
 ⟨_,keyOf_pair arr2 Tryz.underlying3 typesPos (zoy hv) (zoy hu)⟩
theorem zxh:∀ w,(zeroValue 3).run Tryz.prog w=.ok (.int .i64 0) w:=fun w=>by kernel_rfl
def zpb (ports:List (List Lk)) (k i:Nat) (e:Value × Value):Prop:=∃ (v j:Nat) (ls:List Lk) (l:Lk),ports[v]?=some ls∧ls[j]?=some l∧(v < k∨(v=k∧j < i))∧e=(zba v l.1,.int .i64 l.2)
theorem ent_next {ports:List (List Lk)} {k i:Nat} {ls:List Lk} {l:Lk} {es:List (Value × Value)} (hls:ports[k]?=some ls) (hl:ls[i]?=some l) (h:∀ e,e∈es↔zpb ports k i e) (e:Value × Value):e∈es++[(zba k l.1,.int .i64 l.2)]↔zpb ports k (i+1) e:=by
 rw [List.mem_append,h e,List.mem_singleton]
 constructor
 ·rintro (⟨v,j,ls',l',h1,h2,h3,h4⟩|rfl)
  ·exact ⟨v,j,ls',l',h1,h2,by omega,h4⟩
  ·exact ⟨k,i,ls,l,hls,hl,.inr ⟨rfl,by omega⟩,rfl⟩
 ·rintro ⟨v,j,ls',l',h1,h2,h3,h4⟩
  by_cases hvj:v=k∧j=i
  ·obtain ⟨rfl,rfl⟩:=hvj
   rw [hls] at h1;cases h1
   rw [hl] at h2;cases h2
   exact .inr h4
  ·exact .inl ⟨v,j,ls',l',h1,h2,by omega,h4⟩
theorem ent_row {ports:List (List Lk)} {k:Nat} {ls:List Lk} (hls:ports[k]?=some ls) (e:Value × Value):zpb ports k ls.length e↔zpb ports (k+1) 0 e:=by
 constructor
 ·rintro ⟨v,j,ls',l',h1,h2,h3,h4⟩
  exact ⟨v,j,ls',l',h1,h2,by omega,h4⟩
 ·rintro ⟨v,j,ls',l',h1,h2,h3,h4⟩
  refine ⟨v,j,ls',l',h1,h2,?_,h4⟩
  rcases Nat.lt_or_ge v k with h|h
  ·exact .inl h
  ·obtain rfl:v=k:=by omega
   rw [hls] at h1;cases h1
   exact .inr ⟨rfl,(List.getElem?_eq_some_iff.1 h2).1⟩
theorem zns {n v:Nat} {ls:List Lk} (h:ygh n v ls=true) {i j:Nat} {a b:Lk} (hi:ls[i]?=some a) (hj:ls[j]?=some b) (he:a.1=b.1):i=j:=by
 have hn:=((ych _ _ _).1 h).2
 have g1:=List.getElem?_eq_some_iff.1 hi
 have g2:=List.getElem?_eq_some_iff.1 hj
 rcases Nat.lt_trichotomy i j with h1|h1|h1
 ·have:=(List.pairwise_iff_getElem.1 hn) i j (by simpa using g1.1) (by simpa using g2.1) h1
  simp [g1.2,g2.2,he] at this
 ·exact h1
 ·have:=(List.pairwise_iff_getElem.1 hn) j i (by simpa using g2.1) (by simpa using g1.1) h1
  simp [g1.2,g2.2,he] at this
def zxf (ports:List (List Lk)):Bool:=yzs ports && zyr ports
theorem yjh {ports:List (List Lk)} {v:Nat} {ls:List Lk} (hv:ports[v]?=some ls) (h:ygh ports.length v ls=false):zxf ports=false:=by
 unfold zxf
 rw [← Bool.not_eq_true,Bool.and_eq_true,ygk];intro h1;rw [h1.1 v ls hv] at h;cases h
theorem symG_sym {ports:List (List Lk)} {v:Nat} {ls:List Lk} {l:Lk} (hv:ports[v]?=some ls) (hl:l∈ls) (h:ydd (ports.getD l.1.toNat []) v≠l.2):zxf ports=false:=by
 unfold zxf
 rw [← Bool.not_eq_true,Bool.and_eq_true,ytj];intro h1;exact h (h1.2 v ls hv l hl)
theorem symmetric_con (ports:List (List Lk)) (hn:ports.length≤30) (hp:∀ l∈ports,l.length≤5000):Con Tryz.prog 102 [yau ports] (ybq (zxf ports)):=by
 refine yao Tryz.func102 rfl rfl Tryz.ntmps102 Tryz.results102 rfl rfl ?_
 (repeat (first|refine zy ?_|refine L_makeMap rfl rfl rfl rfl rfl ?_))
 refine ydi (α:=Nat × List (Value × Value)) (fun s=>[(16,i64 s.1),(15,i64 ports.length),(14,yau ports),(0,yau ports),(3,.mp 13)]) (fun s=>[(13,some (.map s.2))]) (fun s=>ports.length - s.1)
  (fun s=>s.1≤ports.length∧(∀ (v:Nat) (ls:List Lk),v < s.1→ports[v]?=some ls→ygh ports.length v ls=true)∧∀ e,e∈s.2↔zpb ports s.1 0 e) (0,[]) ⟨by omega,by omega,fun e=>by simp;rintro ⟨v,j,_,_,_,_,h,_⟩;omega⟩ (by exact zs) (by exact zh) ?_
 rintro ⟨k,es⟩ ⟨hk,hok,hes⟩
 simp only at hk hok hes
 (try refine zy ?_)
 refine yac rfl (fun h=>?_) (fun h=>?_)
 ·simp at h
  obtain ⟨ls,hls⟩:=ycg h
  have hll:=hp ls (List.mem_of_getElem? hls)
  (try refine zy ?_)
  refine ydi (α:=Nat × List (Value × Value)) (fun s=>[(23,i64 s.1),(22,i64 ls.length),(21,ygx ls),(4,i64 k),(16,i64 k),(15,i64 ports.length),(14,yau ports),(0,yau ports),(3,.mp 13)]) (fun s=>[(13,some (.map s.2))]) (fun s=>ls.length - s.1)
   (fun s=>s.1≤ls.length∧ygh ports.length k (ls.take s.1)=true∧∀ e,e∈s.2↔zpb ports k s.1 e) (0,es) ⟨by omega,rfl,hes⟩ (by exact zs) (by exact zh) ?_
  rintro ⟨i,es'⟩ ⟨hi,hio,hes'⟩
  simp only at hi hio hes'
  (try refine zy ?_)
  refine yac rfl (fun h1=>?_) (fun h1=>?_)
  ·simp at h1
   obtain ⟨l,hl⟩:=ycg h1
   (try refine zy ?_)
   refine yay 30 rfl (fun h2=>?_) (fun h2=>?_)
   ·simp at h2
    (try refine zy ?_)
    refine yae ?_;refine ⟨_,rfl,?_⟩
    exact yag (yjh hls (ygi hl (by rw [← Bool.not_eq_true,ybk];omega))).symm
   simp at h2
   (try refine zy ?_)
   refine yay 37 rfl (fun h3=>?_) (fun h3=>?_)
   ·simp at h3
    (try refine zy ?_)
    refine yae ?_;refine ⟨_,rfl,?_⟩
    exact yag (yjh hls (ygi hl (by rw [← Bool.not_eq_true,ybk];omega))).symm
   simp at h3
   (try refine zy ?_)
   refine yac rfl (fun h4=>?_) (fun h4=>?_)
   ·simp at h4
    (try refine zy ?_)
    refine yae ?_;refine ⟨_,rfl,?_⟩
    exact yag (yjh hls (ygi hl (by rw [← Bool.not_eq_true,ybk];omega))).symm
   simp at h4
   (try refine zy ?_)
   refine yay 46 rfl (fun h5=>?_) (fun h5=>?_)
   ·simp at h5
    (try refine zy ?_)
    refine yae ?_;refine ⟨_,rfl,?_⟩
    exact yag (yjh hls (ygi hl (by rw [← Bool.not_eq_true,ybk];omega))).symm
   simp at h5
   (try refine zy ?_)
   refine yac rfl (fun h6=>?_) (fun h6=>?_)
   ·simp at h6
    (try refine zy ?_)
    refine yae ?_;refine ⟨_,rfl,?_⟩
    exact yag (yjh hls (ygi hl (by rw [← Bool.not_eq_true,ybk];omega))).symm
   simp at h6
   have hlk:zie ports.length k l=true:=by rw [ybk];omega
   have hks:∀ e∈es',∃ q,keyOf Tryz.prog 136 e.1=some q:=by
    intro e he
    obtain ⟨v,j,ls',l',g1,g2,g3,rfl⟩:=(hes' e).1 he
    have hv:=(List.getElem?_eq_some_iff.1 g1).1
    have hl':0≤l'.1∧l'.1 < ports.length:=by
     rcases g3 with g3|⟨rfl,g3⟩
     ·have:=(ybk _ _ _).1 (((ych _ _ _).1 (hok v ls' g3 g1)).1 l' (List.mem_of_getElem? g2))
      omega
     ·rw [hls] at g1;cases g1
      have:=(ybk _ _ _).1 (((ych _ _ _).1 hio).1 l' (List.mem_of_getElem? (show (ls.take i)[j]?=some l' by rw [List.getElem?_take,if_pos g3];exact g2)))
      omega
    exact ywt (by omega) (by omega)
   obtain ⟨kl,hkl⟩:=ywt (v:=k) (u:=l.1) (by omega) (by omega)
   (try refine zy ?_)
   by_cases hdup:∃ (j:Nat) (y:Lk),j < i∧ls[j]?=some y∧y.1=l.1
   ·obtain ⟨j,y,g1,g2,g3⟩:=hdup
    refine yxn (v:=.int .i64 y.2) (okb:=true) Tryz.underlying240 zng rfl rfl rfl rfl hks hkl zxh ?_ rfl rfl ?_
    ·refine .hit ⟨(zba k y.1,.int .i64 y.2),(hes' _).2 ⟨k,j,ls,y,hls,g2,.inr ⟨rfl,g1⟩,rfl⟩,by rw [g3];rfl⟩ ?_
     intro e he hek
     obtain ⟨v,j',ls',l',q1,q2,q3,rfl⟩:=(hes' e).1 he
     have:=ysl (show zba v l'.1=zba k l.1 from hek)
     obtain rfl:v=k:=by omega
     rw [hls] at q1;cases q1
     have hj':j' < i:=by omega
     have:=zns hio (show (ls.take i)[j']?=some l' by rw [List.getElem?_take,if_pos hj'];exact q2) (show (ls.take i)[j]?=some y by rw [List.getElem?_take,if_pos g1];exact g2) (by omega)
     subst this
     rw [g2] at q2;cases q2;rfl
    (try refine zy ?_)
    refine yae ?_;refine ⟨_,rfl,?_⟩
    exact yag (yjh hls (yvr g1 g2 hl g3)).symm
   ·have hmiss:∀ e∈es',e.1≠zba k l.1:=by
     intro e he hek
     obtain ⟨v,j',ls',l',q1,q2,q3,rfl⟩:=(hes' e).1 he
     have:=ysl (show zba v l'.1=zba k l.1 from hek)
     obtain rfl:v=k:=by omega
     rw [hls] at q1;cases q1
     exact hdup ⟨j',l',by omega,q2,by omega⟩
    refine yxn (v:=.int .i64 0) (okb:=false) Tryz.underlying240 zng rfl rfl rfl rfl hks hkl zxh (.miss hmiss) rfl rfl ?_
    (try refine zy ?_)
    refine L_mapUpdate Tryz.underlying240 zng rfl rfl rfl rfl rfl rfl hks hkl hmiss rfl rfl ?_
    (try refine zy ?_)
    refine rnd (i+1,es'++[(zba k l.1,.int .i64 l.2)]) ⟨by simp only;omega,yzc hl hio hlk (fun j y hj hy he=>hdup ⟨j,y,hj,hy,he⟩),ent_next hls hl hes'⟩ (by simp only;omega) (by exact zs) (by exact zh)
  ·simp at h1
   obtain rfl:i=ls.length:=by omega
   rw [List.take_length] at hio
   (try refine zy ?_)
   refine rnd (k+1,es') ⟨by simp only;omega,fun v ls' hv hls'=>?_,fun e=>(hes' e).trans (ent_row hls e)⟩ (by simp only;omega) (by exact zs) (by exact zh)
   simp only at hv
   rcases Nat.lt_or_ge v k with h8|h8
   ·exact hok v ls' h8 hls'
   ·obtain rfl:v=k:=by omega
    rw [hls] at hls';cases hls';exact hio
 ·simp at h
  obtain rfl:k=ports.length:=by omega
  have hports:yzs ports=true:=by rw [ygk];exact fun v ls hv=>hok v ls (List.getElem?_eq_some_iff.1 hv).1 hv
  have hent:∀ e,e∈es↔∃ (v:Nat) (ls:List Lk) (l:Lk),ports[v]?=some ls∧l∈ls∧e=(zba v l.1,.int .i64 l.2):=by
   intro e
   rw [hes e]
   constructor
   ·rintro ⟨v,j,ls,l,g1,g2,_,g4⟩;exact ⟨v,ls,l,g1,List.mem_of_getElem? g2,g4⟩
   ·rintro ⟨v,ls,l,g1,g2,g3⟩
    obtain ⟨j,hj⟩:=List.getElem?_of_mem g2
    exact ⟨v,j,ls,l,g1,hj,.inl (List.getElem?_eq_some_iff.1 g1).1,g3⟩
  have hlb:∀ (v:Nat) (ls:List Lk) (l:Lk),ports[v]?=some ls→l∈ls→0≤l.1∧l.1 < ports.length∧1≤l.2∧l.2≤15:=by
   intro v ls l hv hl
   have:=(ybk _ _ _).1 (((ych _ _ _).1 ((ygk _).1 hports v ls hv)).1 l hl)
   omega
  have hks:∀ e∈es,∃ q,keyOf Tryz.prog 136 e.1=some q:=by
   intro e he
   obtain ⟨v,ls,l,g1,g2,rfl⟩:=(hent e).1 he
   have:=hlb v ls l g1 g2
   have hv:=(List.getElem?_eq_some_iff.1 g1).1
   exact ywt (by omega) (by omega)
  clear hok hes
  repeat (first|refine ybt ?_|refine yde ?_)
  refine A_freezeMap 3 rfl rfl rfl rfl ?_
  (repeat (first|refine zy ?_|refine L_range Tryz.underlying240 rfl rfl rfl rfl rfl rfl ?_))
  refine ydi (α:=List (Value × Value) × Option (Value × Value)) (fun s=>[(69,.lp 69 0),(3,.mv es)]) (fun s=>[(69,some (.iter es s.1 s.2))]) (fun s=>s.1.length)
   (fun s=>(∀ p∈s.1,p∈es)∧∀ (v:Nat) (ls:List Lk) (l:Lk),ports[v]?=some ls→l∈ls→(zba v l.1,Value.int .i64 l.2)∈s.1∨ydd (ports.getD l.1.toNat []) v=l.2) (es,none) ⟨fun p h=>h,fun v ls l hv hl=>.inl ((hent _).2 ⟨v,ls,l,hv,hl,rfl⟩)⟩ (by exact zs) (by exact zh) ?_
  rintro ⟨left,cur⟩ ⟨hl1,hl2⟩
  simp only at hl1 hl2
  (try refine zy ?_)
  refine L_next rfl rfl rfl rfl rfl (fun hnil=>?_) (fun p left' hperm=>?_)
  ·(try refine zy ?_)
   refine yae ?_;refine ⟨_,rfl,?_⟩
   subst hnil
   refine yag ?_
   unfold zxf
   rw [eq_comm,Bool.and_eq_true,ytj]
   exact ⟨hports,fun v ls hv l hl=>(hl2 v ls l hv hl).resolve_left (by simp)⟩
  ·have hp1:=hl1 p (hperm.symm.subset (by simp))
   obtain ⟨v,ls,l,g1,g2,rfl⟩:=(hent p).1 hp1
   have hlv:=hlb v ls l g1 g2
   have hv:=(List.getElem?_eq_some_iff.1 g1).1
   obtain ⟨os,hos⟩:=ycg (show l.1.toNat < ports.length by omega)
   have hgd:ports.getD l.1.toNat []=os:=by rw [List.getD_eq_getElem?_getD,hos];rfl
   have hcast:((l.1.toNat:Nat):Int)=l.1:=by omega
   obtain ⟨kl,hkl⟩:=ywt (v:=l.1) (u:=v) (by omega) (by omega)
   have hfound:∃ b,Found (.int .i64 0) es (zba l.1 v) (.int .i64 (ydd os v)) b:=by
    rcases yop os v with ⟨_,hpn⟩|⟨q,y,_,hy,hyk,hfd⟩
    ·refine ⟨false,?_⟩
     rw [zaw hpn]
     refine .miss fun e he hek=>?_
     obtain ⟨v',ls',l',q1,q2,rfl⟩:=(hent e).1 he
     have:=ysl (show zba v' l'.1=zba l.1 v from hek)
     obtain rfl:v'=l.1.toNat:=by omega
     rw [hos] at q1;cases q1
     exact hpn l' q2 this.2
    ·refine ⟨true,?_⟩
     rw [zax hfd]
     refine .hit ⟨(zba l.1 y.1,.int .i64 y.2),(hent _).2 ⟨l.1.toNat,os,y,hos,List.mem_of_getElem? hy,by rw [hcast]⟩,by rw [hyk]⟩ fun e he hek=>?_
     obtain ⟨v',ls',l',q1,q2,rfl⟩:=(hent e).1 he
     have:=ysl (show zba v' l'.1=zba l.1 v from hek)
     obtain rfl:v'=l.1.toNat:=by omega
     rw [hos] at q1;cases q1
     obtain ⟨j,hj⟩:=List.getElem?_of_mem q2
     have:=zns ((ygk _).1 hports _ _ hos) hj hy (by omega)
     subst this
     rw [hy] at hj;cases hj;rfl
   obtain ⟨fb,hfound⟩:=hfound
   (repeat (first|refine zy ?_|refine L_entry rfl rfl rfl rfl ?_))
   refine L_lookup_mv Tryz.underlying240 zng rfl rfl rfl hks hkl zxh hfound rfl rfl ?_
   (try refine zy ?_)
   refine yac rfl (fun h1=>?_) (fun h1=>?_)
   ·simp at h1
    (try refine zy ?_)
    refine yae ?_;refine ⟨_,rfl,?_⟩
    exact yag (symG_sym g1 g2 (by rw [hgd];exact h1)).symm
   ·simp at h1
    (try refine zy ?_)
    refine rnd (left',some (zba v l.1,.int .i64 l.2)) ⟨fun q hq=>hl1 q (hperm.symm.subset (by simp [hq])),fun v' ls' l' hv' hl'=>?_⟩ (by have:=hperm.length_eq;simp only [List.length_cons] at this;simp only;omega) (by exact zs) (by exact zh)
    rcases hl2 v' ls' l' hv' hl' with hq|hq
    ·rcases List.mem_cons.1 (hperm.subset hq) with he|he
     ·right
      simp only [Prod.mk.injEq,Value.int.injEq,true_and] at he
      have:=ysl he.1
      obtain rfl:v'=v:=by omega
      rw [this.2,hgd,h1,he.2]
     ·exact .inl he
    ·exact .inr hq
theorem gvalid_con' (g:GraphD) (hl:zzs g):Con Tryz.prog 49 [ynl g] (ybq (ybs g)):=by
 obtain ⟨hl1,hl2,hl3⟩:=hl
 refine yao Tryz.func49 rfl rfl Tryz.ntmps49 Tryz.results49 rfl rfl ?_
 (try refine zy ?_)
 refine yay 9 rfl (fun h1=>?_) (fun h1=>?_)
 ·simp at h1
  (try refine zy ?_)
  refine yae ?_;refine ⟨_,rfl,?_⟩
  exact yag (yoz (by omega)).symm
 simp at h1
 (try refine zy ?_)
 refine yay 13 rfl (fun h2=>?_) (fun h2=>?_)
 ·simp at h2
  (try refine zy ?_)
  refine yae ?_;refine ⟨_,rfl,?_⟩
  exact yag (yoz (by omega)).symm
 simp at h2
 (try refine zy ?_)
 refine yac rfl (fun h3=>?_) (fun h3=>?_)
 ·simp at h3
  (try refine zy ?_)
  refine yae ?_;refine ⟨_,rfl,?_⟩
  exact yag (yoz (by omega)).symm
 simp at h3
 (repeat (first|refine zy ?_|refine yaf rfl rfl (differentIDs_con g.ids (by omega)) rfl rfl ?_))
 refine yay 23 rfl (fun h4=>?_) (fun h4=>?_)
 ·(repeat (first|refine zy ?_|refine yaf rfl rfl (symmetric_con g.ports (by omega) hl3) rfl rfl ?_))
  refine yae ?_;refine ⟨_,rfl,?_⟩
  refine yag ?_
  rw [Bool.eq_iff_iff,ygn]
  unfold zxf
  rw [Bool.and_eq_true]
  constructor
  ·intro h5;exact ⟨by omega,by omega,by omega,h4,h5⟩
  ·intro h5;exact h5.2.2.2.2
 ·(try refine zy ?_)
  refine yae ?_;refine ⟨_,rfl,?_⟩
  exact yag (zat h4).symm
theorem rvalid_con (g:GraphD) (hl:yjt g=true):Con Tryz.prog 40 [ynl g] (ybq (ybs g)):=rvalid_con' g (zsk hl)
theorem zcj (g:GraphD) (hl:yjt g=true):Con Tryz.prog 49 [ynl g] (ybq (ybs g)):=gvalid_con' g (zsk hl)
end
section
open Go.RowKit
theorem ylx {α:Type} {f:α→List AV} {R:List Value→α→Prop} {w:World} {lv:Live} {size:Nat} {l:List α} {v:Value} (h:Seq R size w v l) (hf:∀ x,(f x).length=size) (hfc:∀ x,∀ c∈f x,ydw c=true)
  (hR:∀ x∈l,∀ cs,R cs x→ybm (okW w) w (fun _=>none) (f x) cs):Rel (okW w) w lv (.sl size (l.map f)) v:=by
 obtain ⟨xs,⟨a,cap,rfl,h1,h2,h3,h4,h5⟩,h6⟩:=h
 have hget:∀ (i j:Nat) (row:List AV) (c:AV),(l.map f)[i]?=some row→row[j]?=some c→∃ x,l[i]?=some x∧row=f x∧∃ u,xs[i * size+j]?=some u∧Rel (okW w) w (fun _=>none) c u:=by
  intro i j row c hrow hc
  rw [List.getElem?_map] at hrow
  cases hx:l[i]? with
  | none=>simp [hx] at hrow
  | some x=>
   simp only [hx,Option.map_some,Option.some.injEq] at hrow
   subst hrow
   have hj:j < size:=by have:=(List.getElem?_eq_some_iff.1 hc).1;rw [hf] at this;exact this
   have hi:=(List.getElem?_eq_some_iff.1 hx).1
   have hlt:i * size+j < xs.length:=by
    have:i * size+size≤l.length * size:=by rw [← Nat.succ_mul];exact Nat.mul_le_mul_right _ hi
    omega
   refine ⟨x,rfl,rfl,xs[i * size+j],List.getElem?_eq_getElem hlt,?_⟩
   refine (hR x (List.mem_of_getElem? hx) _ (h6 i x hx)).2 j c _ hc ?_
   rw [List.getElem?_take,if_pos hj,List.getElem?_drop,List.getElem?_eq_getElem hlt]
 have hgo:∃ g o,l≠[]→a=some ⟨g,o,none⟩∧g < w.heap.size∧∀ (j:Nat) (u:Value),xs[j]?=some u→w.cell? ⟨g,o+j,none⟩=some u:=by
  rcases h5 with h5|⟨g,o,q1,q2,q3⟩
  ·exact ⟨0,0,fun h=>absurd (List.eq_nil_of_length_eq_zero h5) h⟩
  ·exact ⟨g,o,fun _=>⟨q1,q2,q3⟩⟩
 obtain ⟨g,o,hgo⟩:=hgo
 have:=Rel.sl (ok:=okW w) (w:=w) (lv:=lv) (size:=size) (rows:=l.map f) a cap (fun i j=>xs.getD (i * size+j) undef) g o (by simpa using h1) h2 h4 (fun row hr=>by obtain ⟨x,_,rfl⟩:=List.mem_map.1 hr;exact hf x)
  (fun hne=>by have:=hgo (by intro h;simp [h] at hne);exact ⟨this.1,this.2.1⟩) (fun i j row c hrow hc=>by
   obtain ⟨x,hx,rfl,u,hu,hr⟩:=hget i j row c hrow hc
   have hne:l≠[]:=by intro h;simp [h] at hx
   refine ⟨?_,hfc x c (List.mem_of_getElem? hc)⟩
   rw [Nat.add_assoc,(hgo hne).2.2 _ u hu]
   simp [hu]) (fun i j row c hrow hc=>by
   obtain ⟨x,hx,rfl,u,hu,hr⟩:=hget i j row c hrow hc
   have:xs.getD (i * size+j) undef=u:=by simp [hu]
   rw [this];exact hr)
 simpa using this
theorem flat_slice {α:Type} {g:α→List Value} {size:Nat} (hg:∀ x,(g x).length=size) {l:List α} {i:Nat} {x:α} (hx:l[i]?=some x):((l.flatMap g).drop (i * size)).take size=g x:=by
 apply List.ext_getElem?
 intro j
 rw [List.getElem?_take]
 by_cases hj:j < size
 ·rw [if_pos hj,List.getElem?_drop]
  have hu:(g x)[j]?=some ((g x)[j]'(by rw [hg];exact hj)):=List.getElem?_eq_getElem _
  rw [hu]
  exact ymr g size hg l i j x _ hx hu
 ·rw [if_neg hj,List.getElem?_eq_none (by rw [hg];omega)]
theorem seq_of_row {α:Type} {g:α→List Value} {size:Nat} (hg:∀ x,(g x).length=size) {w:World} {v:Value} {l:List α} (h:Row w v size l.length (l.flatMap g)):Seq (fun cs x=>cs=g x) size w v l:=
 ⟨_,h,fun i x hx=>flat_slice hg hx⟩
theorem relAll_v {ok:Nat→Prop} {w:World} {lv:Live} (vs:List Value):ybm ok w lv (vs.map AV.v) vs:=by
 refine ⟨by simp,fun i x u hx hu=>?_⟩
 rw [List.getElem?_map,hu] at hx
 cases hx
 exact .v u
theorem yff {ok:Nat→Prop} {w:World} {lv:Live}:ybm ok w lv [] []:=⟨rfl,fun i x u hx hu=>by simp at hx⟩
theorem ybi {ok:Nat→Prop} {w:World} {lv:Live} {a:AV} {v:Value} {xs:List AV} {vs:List Value} (h:Rel ok w lv a v) (t:ybm ok w lv xs vs):ybm ok w lv (a::xs) (v::vs):=by
 refine ⟨by simp [t.1],fun i x u hx hu=>?_⟩
 cases i with
 | zero=>simp at hx hu;subst hx hu;exact h
 | succ i=>simp at hx hu;exact t.2 i x u hx hu
theorem yot {w:World} {lv:Live} {α:Type} {g:α→List Value} {size:Nat} (hg:∀ x,(g x).length=size) (h1:∀ x,∀ u∈g x,u.oneCell'=true) {v:Value} {l:List α} (h:Row w v size l.length (l.flatMap g)):Rel (okW w) w lv (.sl size (l.map fun x=>(g x).map AV.v)) v:=
 ylx (seq_of_row hg h) (fun x=>by simp [hg]) (fun x c hc=>by
  obtain ⟨u,hu,rfl⟩:=List.mem_map.1 hc
  exact h1 x u hu) (fun x _ cs hc=>by subst hc;exact relAll_v _)
theorem zey {w:World} {lv:Live} {v:Value} {l:List Int} (h:ymc .i64 w v l):Rel (okW w) w lv (yah l) v:=by
 refine yot (g:=fun t:Int=>[.int .i64 t]) (fun _=>rfl) (fun x u hu=>by simp at hu;subst hu;rfl) ?_
 unfold ymc at h
 rwa [zeo l]
theorem okW_lt (w:World):∀ g,okW w g→g < w.heap.size:=fun _ h=>h
end
section
open Go.RowKit
def yjo (t:Tm):List AV:=[i64 t.1,i64 t.2]
def yeq (l:List Tm):AV:=.sl 2 (l.map yjo)
def zrh (s:SetD):List AV:=[i64 s.var,yeq s.val]
def ydo (r:RuleD):List AV:=[zdp r.name,yeq r.guard,.sl 2 (r.sets.map zrh)]
def ydj (x:VarD):List AV:=[zdp x.name,i64 x.kind,i64 x.lo,i64 x.hi,i64 x.perNode,i64 x.perID]
def ytn (p:ProgD):AV:=.agg [zdp p.name,.sl 6 (p.vars.map ydj),.sl 3 (p.rules.map ydo)]
structure FaultD where
 node:Int
 var:Int
 value:Int
theorem ylz {α:Type} {f:α→List AV} {R:List Value→α→Prop} {ok:Nat→Prop} {w:World} {lv:Live} {size:Nat} {l:List α} {v:Value} (h:Rel ok w lv (.sl size (l.map f)) v) (hok:∀ g,ok g→g < w.heap.size)
  (hR:∀ x∈l,∀ cs,ybm ok w (fun _=>none) (f x) cs→R cs x):Seq R size w v l:=by
 cases h with
 | sl a cap u g o hn hc ha hsz hg hcell hrel=>
  simp only [List.length_map] at hn ⊢
  have hfl:∀ x∈l,(f x).length=size:=fun x hx=>hsz _ (List.mem_map_of_mem hx)
  refine ⟨(List.range (l.length * size)).map fun j=>u (j / size) (j % size),⟨a,cap,rfl,hn,hc,by simp,ha,?_⟩,fun i x hx=>?_⟩
  ·rcases Nat.eq_zero_or_pos l.length with h0|h0
   ·exact .inl h0
   ·obtain ⟨rfl,hok'⟩:=hg (by intro h;simp at h;simp [h] at h0)
    refine .inr ⟨g,o,rfl,hok g hok',fun j v hj=>?_⟩
    have hlt:=(List.getElem?_eq_some_iff.1 hj).1
    simp only [List.length_map,List.length_range] at hlt
    rw [List.getElem?_map,List.getElem?_range hlt] at hj
    simp only [Option.map_some,Option.some.injEq] at hj
    have hs0:0 < size:=by
     rcases Nat.eq_zero_or_pos size with h|h
     ·simp [h] at hlt
     ·exact h
    have hi:j / size < l.length:=by rw [Nat.div_lt_iff_lt_mul hs0];exact hlt
    have hx:=List.getElem?_eq_getElem hi
    have hm:j % size < (f l[j / size]).length:=by rw [hfl _ (List.getElem_mem hi)];exact Nat.mod_lt _ hs0
    have:=(hcell (j / size) (j % size) (f l[j / size]) _ (by simp [hx]) (List.getElem?_eq_getElem hm)).1
    rw [← hj,← this]
    congr 2
    rw [Nat.add_assoc,Nat.mul_comm,Nat.div_add_mod]
  ·refine hR x (List.mem_of_getElem? hx) _ ⟨?_,fun j c v hc hv=>?_⟩
   ·have hi:=(List.getElem?_eq_some_iff.1 hx).1
    rw [hfl x (List.mem_of_getElem? hx),List.length_take,List.length_drop,List.length_map,List.length_range]
    have:i * size+size≤l.length * size:=by rw [← Nat.succ_mul];exact Nat.mul_le_mul_right _ hi
    omega
   ·have hj:j < size:=by have:=(List.getElem?_eq_some_iff.1 hc).1;rw [hfl x (List.mem_of_getElem? hx)] at this;exact this
    have hi:=(List.getElem?_eq_some_iff.1 hx).1
    have hlt:i * size+j < l.length * size:=by
     have:i * size+size≤l.length * size:=by rw [← Nat.succ_mul];exact Nat.mul_le_mul_right _ hi
     omega
    rw [List.getElem?_take,if_pos hj,List.getElem?_drop,List.getElem?_map,List.getElem?_range hlt] at hv
    simp only [Option.map_some,Option.some.injEq] at hv
    have e1:(i * size+j) / size=i:=by rw [Nat.add_comm,Nat.add_mul_div_right _ _ (by omega),Nat.div_eq_of_lt hj,Nat.zero_add]
    have e2:(i * size+j) % size=j:=by rw [Nat.add_comm,Nat.add_mul_mod_self_right,Nat.mod_eq_of_lt hj]
    rw [e1,e2] at hv
    subst hv
    exact hrel i j (f x) c (by simp [hx]) hc
theorem ztg {α:Type} {g:α→List Value} {size:Nat} {w:World} {v:Value} {l:List α} (hg:∀ x,(g x).length=size) (h0:0 < size) (h:Seq (fun cs x=>cs=g x) size w v l):Row w v size l.length (l.flatMap g):=ynb g hg h0 h fun cs x h=>h
theorem ygm {ok:Nat→Prop} {w:World} {lv:Live} {l:List Tm} {v:Value} (h:Rel ok w lv (yeq l) v) (hok:∀ g,ok g→g < w.heap.size):ycy w v l:=
 ztg (g:=fun t:Tm=>[.int .i64 t.1,.int .i64 t.2]) (fun _=>rfl) (by omega) (ylz h hok fun x _ cs hr=>by
  obtain ⟨u,v,rfl,h1,h2⟩:=yrq hr
  rw [yey h1,yey h2])
theorem ymy {ok:Nat→Prop} {w:World} {lv:Live} {p:ProgD} {v:Value} (h:Rel ok w lv (ytn p) v) (hok:∀ g,ok g→g < w.heap.size):yhj w v p:=by
 cases h with
 | agg vs hl hc hr=>
  obtain ⟨u,vv,rv,rfl,h1,h2,h3⟩:=zli ⟨hl,hr⟩
  rw [yey h1]
  refine ⟨vv,rv,rfl,?_,?_⟩
  ·exact ztg (fun _=>rfl) (by omega) (ylz h2 hok fun x _ cs hr=>by
    match cs,hr with
    | [c0,c1,c2,c3,c4,c5],hr=>
     have e0:=yey (hr.2 0 _ _ rfl rfl)
     have e1:=yey (hr.2 1 _ _ rfl rfl)
     have e2:=yey (hr.2 2 _ _ rfl rfl)
     have e3:=yey (hr.2 3 _ _ rfl rfl)
     have e4:=yey (hr.2 4 _ _ rfl rfl)
     have e5:=yey (hr.2 5 _ _ rfl rfl)
     rw [e0,e1,e2,e3,e4,e5];rfl)
  ·exact ylz h3 hok fun x _ cs hr=>by
    obtain ⟨u,gv,sv,rfl,q1,q2,q3⟩:=zli hr
    rw [yey q1]
    exact ⟨gv,sv,rfl,ygm q2 hok,ylz q3 hok fun y _ cs hr=>by
     obtain ⟨u,tv,rfl,r1,r2⟩:=yrq hr
     rw [yey r1]
     exact ⟨tv,rfl,ygm r2 hok⟩⟩
end
section
open Go.RowKit Go.Maps
def ynn (r:RuleD):Bool:=decide (r.name.size≤40) && (decide (r.sets.length≤10) && (decide (r.guard.length≤250) && r.sets.all (fun s=>decide (s.val.length≤250))))
def yds (p:ProgD):Bool:=decide (p.name.size≤40) && (decide (p.vars.length≤10) && (decide (p.rules.length≤16) && (p.vars.all (fun x=>decide (x.name.size≤40)) && p.rules.all ynn)))
theorem zfe {p:ProgD} (h:yds p=true):yve p:=by
 unfold yds at h
 simp only [Bool.and_eq_true,decide_eq_true_eq,List.all_eq_true] at h
 refine ⟨by omega,by omega,fun r hr=>?_⟩
 have:=h.2.2.2.2 r hr
 unfold ynn at this
 simp only [Bool.and_eq_true,decide_eq_true_eq,List.all_eq_true] at this
 exact ⟨by omega,by omega,fun s hs=>by have:=this.2.2.2 s hs;omega⟩
set_option maxHeartbeats 16000000 in
theorem lightP_any (v:Value) (p:ProgD) (w:World) (hv:yhj w v p) (hin:yhi p) :
  Calls Tryz.prog 98 #[v] w fun e w'=>e=.returned (.bool (yds p))∧Below w.heap.size w w':=by
 have HIN:=Lib.hid hin
 obtain ⟨vv,rv,rfl,hvv,hrv⟩:=hv
 obtain ⟨a0,cap0,rfl,i1,i2,i3⟩:=hvv.open
 obtain ⟨a1,cap1,rfl,j1,j2,j3⟩:=hrv.open
 have HVC:=Lib.hid i3
 have HRC:=Lib.hid j3
 have hns:=hin.1
 clear i3 j3 hvv hrv hin
 by_cases h40:40 < p.name.size
 ·have H:=Lib.hid (show yds p=false by unfold yds;rw [show decide (p.name.size≤40)=false by simp;omega];rfl)
  have b1:decide (40 < p.name.size)=true:=by simp;omega
  go_enter Tryz.func98,Tryz.ntmps98
  go_wp2_with fail
  go_ret
  exact ⟨yab H.out.symm,(Below.refl _ _).alloc (Nat.le_refl _) _⟩
 have b1:decide (40 < p.name.size)=false:=by simp;omega
 have b1':decide (40 < (p.name.size:Int))=false:=by simp;omega
 by_cases h10:10 < p.vars.length
 ·have H:=Lib.hid (show yds p=false by unfold yds;rw [show decide (p.vars.length≤10)=false by simp;omega];simp)
  have b2:decide (10 < p.vars.length)=true:=by simp;omega
  go_enter Tryz.func98,Tryz.ntmps98
  go_wp2_with fail
  go_ret
  exact ⟨yab H.out.symm,(Below.refl _ _).alloc (Nat.le_refl _) _⟩
 have b2:decide (10 < p.vars.length)=false:=by simp;omega
 have b2':decide (10 < (p.vars.length:Int))=false:=by simp;omega
 by_cases h16:16 < p.rules.length
 ·have H:=Lib.hid (show yds p=false by unfold yds;rw [show decide (p.rules.length≤16)=false by simp;omega];simp)
  have b3:decide (16 < p.rules.length)=true:=by simp;omega
  go_enter Tryz.func98,Tryz.ntmps98
  go_wp2_with fail
  go_ret
  exact ⟨yab H.out.symm,(Below.refl _ _).alloc (Nat.le_refl _) _⟩
 have b3:decide (16 < p.rules.length)=false:=by simp;omega
 have b3':decide (16 < (p.rules.length:Int))=false:=by simp;omega
 have H0:=Lib.hid (show yds p=(p.vars.all (fun x=>decide (x.name.size≤40)) && p.rules.all ynn) by
  unfold yds
  rw [show decide (p.name.size≤40)=true by simp;omega,show decide (p.vars.length≤10)=true by simp;omega,show decide (p.rules.length≤16)=true by simp;omega];rfl)
 go_enter Tryz.func98,Tryz.ntmps98
 go_wp2_with fail
 go_loopw [3] (fun i wr=>∃ k:Nat,k≤p.vars.length∧i=.int .i64 k∧Hid ((p.vars.take k).all (fun x=>decide (x.name.size≤40))=true)∧Hid (Below (w.heap.size+1) (w.alloc (.cells #[.string p.name,.slice a0 p.vars.length cap0,.slice a1 p.rules.length cap1] 25)) wr)) (fun i _=>p.vars.length - (intOf i).toNat)
 case atStart=>exact ⟨0,by omega,rfl,rfl,Below.refl _ _⟩
 case round=>
  obtain ⟨k,hk,rfl,hall,hbel⟩:=hrel
  have hbw:=yaw hbel.out
  have hbs:=ycd hbel.out
  have hbox:=ycp hbel.out 1
  have hbox2:=ycp hbel.out 2
  simp at hbox hbox2
  by_cases hlt:k < p.vars.length
  ·obtain ⟨g,o,rfl,hg,hc⟩:=HVC.out (by omega)
   obtain ⟨x,hx⟩:∃ x,p.vars[k]?=some x:=⟨_,List.getElem?_eq_getElem hlt⟩
   obtain ⟨c0,_,_,_,_,_⟩:=hc k x hx
   rw [← hbw.cell (p:=⟨g,_,none⟩) hg] at c0
   have HGX:Hid (p.vars[k]=x):=(List.getElem?_eq_some_iff.1 hx).2
   have hxs:=(HIN.out.2.1 x (List.mem_of_getElem? hx)).1
   clear hc hx
   by_cases h4:40 < x.name.size
   ·have H:=Lib.hid (show yds p=false by rw [H0.out,ygu k hlt (by rw [HGX.out];simp;omega)];rfl)
    have b4:decide (40 < x.name.size)=true:=by simp;omega
    go_wp2_with fail
    go_ret
    exact ⟨yab H.out.symm,hbw⟩
   ·have HST:=Lib.hid (ygv (f:=fun x:VarD=>decide (x.name.size≤40)) k hlt hall.out (by rw [HGX.out];simp;omega))
    have b4:decide (40 < x.name.size)=false:=by simp;omega
    go_wp2_with fail
    exact ⟨⟨k+1,by omega,by go_num,HST,hbel⟩,by simp [intOf];omega⟩
  ·obtain rfl:k=p.vars.length:=by omega
   have H1:=Lib.hid (show yds p=p.rules.all ynn by rw [H0.out,yjl hall.out];rfl)
   obtain ⟨wo,rfl⟩:∃ wo:World,wo=wr:=⟨_,rfl⟩
   go_wp2_with fail
   go_loopw [4,5,6] (fun i _ _ wr=>∃ k:Nat,k≤p.rules.length∧i=.int .i64 k∧Hid ((p.rules.take k).all ynn=true)∧Hid (Below (w.heap.size+1) (w.alloc (.cells #[.string p.name,.slice a0 p.vars.length cap0,.slice a1 p.rules.length cap1] 25)) wr)) (fun i _ _ _=>p.rules.length - (intOf i).toNat)
   case atStart=>exact ⟨0,by omega,rfl,rfl,hbel⟩
   case round=>
    clear hbel hbw hbs hbox hbox2 hall
    obtain ⟨k,hk,rfl,hall,hbel⟩:=hrel
    have hbw:=yaw hbel.out
    have hbs:=ycd hbel.out
    have hbox2:=ycp hbel.out 2
    simp at hbox2
    by_cases hlt:k < p.rules.length
    ·obtain ⟨g,o,rfl,hg,hc⟩:=HRC.out (by omega)
     obtain ⟨x,hx⟩:∃ x,p.rules[k]?=some x:=⟨_,List.getElem?_eq_getElem hlt⟩
     obtain ⟨gv,sv,ht,hs,c0,c1,c2⟩:=hc k x hx
     have HT:=Lib.hid ht
     obtain ⟨ga,gcap,rfl,_,_,_⟩:=ht.open
     obtain ⟨sa,scap,rfl,sl1,sl2,s3⟩:=yfu hs
     have HSC:=Lib.hid s3
     rw [← hbw.cell (p:=⟨g,_,none⟩) hg] at c0 c1 c2
     have HGX:Hid (p.rules[k]=x):=(List.getElem?_eq_some_iff.1 hx).2
     have hxs:=(HIN.out.2.2 x (List.mem_of_getElem? hx)).1
     clear hc hx ht hs s3
     by_cases h4:40 < x.name.size
     ·have H:=Lib.hid (show yds p=false by rw [H1.out,ygu k hlt (by rw [HGX.out,ynn,show decide (x.name.size≤40)=false by simp;omega];rfl)])
      have b4:decide (40 < x.name.size)=true:=by simp;omega
      go_wp2_with fail
      go_ret
      exact ⟨yab H.out.symm,hbw.alloc (by omega) _⟩
     have b4:decide (40 < x.name.size)=false:=by simp;omega
     have b4':decide (40 < (x.name.size:Int))=false:=by simp;omega
     by_cases h5:10 < x.sets.length
     ·have H:=Lib.hid (show yds p=false by rw [H1.out,ygu k hlt (by rw [HGX.out,ynn,show decide (x.sets.length≤10)=false by simp;omega];simp)])
      have b5:decide (10 < x.sets.length)=true:=by simp;omega
      go_wp2_with fail
      go_ret
      exact ⟨yab H.out.symm,hbw.alloc (by omega) _⟩
     have b5:decide (10 < x.sets.length)=false:=by simp;omega
     have b5':decide (10 < (x.sets.length:Int))=false:=by simp;omega
     by_cases h6:250 < x.guard.length
     ·have H:=Lib.hid (show yds p=false by rw [H1.out,ygu k hlt (by rw [HGX.out,ynn,show decide (x.guard.length≤250)=false by simp;omega];simp)])
      have b6:decide (x.guard.length≤250)=false:=by simp;omega
      go_wp2_with (go_at_call 167;refine (ysn _ x.guard _ (by exact HT.out.below (hbw.alloc (by omega) _))).mono ?_;rintro e w1 ⟨rfl,rfl⟩)
      go_ret
      exact ⟨yab H.out.symm,hbw.alloc (by omega) _⟩
     have b6:decide (x.guard.length≤250)=true:=by simp;omega
     have HR:=Lib.hid (show ynn x=x.sets.all (fun s=>decide (s.val.length≤250)) by
      unfold ynn
      rw [show decide (x.name.size≤40)=true by simp;omega,show decide (x.sets.length≤10)=true by simp;omega,b6];rfl)
     obtain ⟨wo2,rfl⟩:∃ wo2:World,wo2=wr:=⟨_,rfl⟩
     go_wp2_with (go_at_call 167;refine (ysn _ x.guard _ (by exact HT.out.below (hbw.alloc (by omega) _))).mono ?_;rintro e w1 ⟨rfl,rfl⟩)
     go_loop [6] (fun i=>∃ j:Nat,j≤x.sets.length∧i=.int .i64 j∧Hid ((x.sets.take j).all (fun s=>decide (s.val.length≤250))=true)) (fun i=>x.sets.length - (intOf i).toNat)
     case atStart=>exact ⟨0,by omega,rfl,rfl⟩
     case round=>
      obtain ⟨j,hj,rfl,hall2⟩:=hrel
      by_cases hjl:j < x.sets.length
      ·obtain ⟨g2,o2,rfl,hg2,hc2⟩:=HSC.out (by omega)
       obtain ⟨y,hy⟩:∃ y,x.sets[j]?=some y:=⟨_,List.getElem?_eq_getElem hjl⟩
       obtain ⟨tv,hty,d0,d1⟩:=hc2 j y hy
       have HTY:=Lib.hid hty
       obtain ⟨ya,ycap,rfl,_,_,_⟩:=hty.open
       have hba:=hbw.alloc (show w.heap.size≤wo2.heap.size by omega) (.cells #[.string x.name,.slice ga x.guard.length gcap,.slice (some ⟨g2,o2,none⟩) x.sets.length scap] 97)
       rw [← hba.cell (p:=⟨g2,_,none⟩) hg2] at d1
       have HGY:Hid (x.sets[j]=y):=(List.getElem?_eq_some_iff.1 hy).2
       clear hc2 hy hty d0
       by_cases h7:250 < y.val.length
       ·have b7:decide (y.val.length≤250)=false:=by simp;omega
        have H:=Lib.hid (show yds p=false by rw [H1.out,ygu k hlt (by rw [HGX.out,HR.out,ygu j hjl (by rw [HGY.out];exact b7)])])
        go_wp2_with (go_at_call 167;refine (ysn _ y.val _ (by exact HTY.out.below (hbw.alloc (by omega) _))).mono ?_;rintro e w1 ⟨rfl,rfl⟩)
        go_ret
        exact ⟨yab H.out.symm,hba⟩
       ·have b7:decide (y.val.length≤250)=true:=by simp;omega
        have HST:=Lib.hid (ygv (f:=fun s:SetD=>decide (s.val.length≤250)) j hjl hall2.out (by rw [HGY.out];exact b7))
        go_wp2_with (go_at_call 167;refine (ysn _ y.val _ (by exact HTY.out.below (hbw.alloc (by omega) _))).mono ?_;rintro e w1 ⟨rfl,rfl⟩)
        exact ⟨⟨j+1,by omega,by go_num,HST⟩,by simp [intOf];omega⟩
      ·obtain rfl:j=x.sets.length:=by omega
       have HST:=Lib.hid (ygv (f:=ynn) k hlt hall.out (by rw [HGX.out,HR.out];exact yjl hall2.out))
       go_wp2_with fail
       exact ⟨⟨k+1,by omega,by go_num,HST,hbel.out.alloc hbs _⟩,by simp [intOf];omega⟩
    ·obtain rfl:k=p.rules.length:=by omega
     have H:=Lib.hid (show yds p=true by rw [H1.out,yjl hall.out])
     go_wp2_with fail
     go_ret
     exact ⟨yab H.out.symm,hbw⟩
end
section
open Go.RowKit
def zwx (a b:Int):Int:=if a.tmod b < 0 then a.tmod b+b else a.tmod b
theorem modI_bd {a b:Int} (hb:0 < b):0≤zwx a b∧zwx a b < b:=by
 unfold zwx
 have h1:=Int.tmod_lt_of_pos a hb
 have h2:=Int.lt_tmod_of_pos a hb
 split <;> omega
theorem mod_con (a b:Int) (hb:0 < b∧b≤1000000):Con Tryz.prog 12 [i64 a,i64 b] (i64 (zwx a b)):=by
 have h1:=Int.tmod_lt_of_pos a hb.1
 have h2:=Int.lt_tmod_of_pos a hb.1
 refine yao Tryz.func12 rfl rfl Tryz.ntmps12 Tryz.results12 rfl rfl ?_
 (repeat (first|refine zy ?_|refine zxv rfl rfl (by omega) rfl rfl ?_))
 refine yac rfl (fun h=>?_) (fun h=>?_)
 ·simp at h
  (try refine zy ?_)
  refine yae ?_;refine ⟨_,rfl,?_⟩
  exact yai (by unfold zwx;rw [if_pos h])
 ·simp at h
  (try refine zy ?_)
  refine yae ?_;refine ⟨_,rfl,?_⟩
  exact yai (by unfold zwx;rw [if_neg (by omega)])
end
section
open Go.RowKit
theorem tvalid_con (p:ProgD) (hin:yhi p) (hl:yve p):Con Tryz.prog 141 [ytn p] (ybq (ydf p == 0)):=
 yee ⟨_,Tryz.func141,rfl,rfl⟩ fun w us ok hok hr=>by
  obtain ⟨u,rfl,h1⟩:=zfp hr
  exact validP_any u p w (ymy h1 hok) hin hl
theorem rtvalid_con (p:ProgD) (hin:yhi p) (hl:yve p):Con Tryz.prog 173 [ytn p] (ybq (ydf p == 0)):=
 yee ⟨_,Tryz.func173,rfl,rfl⟩ fun w us ok hok hr=>by
  obtain ⟨u,rfl,h1⟩:=zfp hr
  exact rvalidP_any u p w (ymy h1 hok) hin hl
theorem lightP_con (p:ProgD) (hin:yhi p):Con Tryz.prog 98 [ytn p] (ybq (yds p)):=
 yee ⟨_,Tryz.func98,rfl,rfl⟩ fun w us ok hok hr=>by
  obtain ⟨u,rfl,h1⟩:=zfp hr
  exact lightP_any u p w (ymy h1 hok) hin
end
section
open Go.RowKit
theorem greatest_con (g:GraphD) (hlen:g.ids.length≤1000):Con Tryz.prog 174 [ynl g] (i64 (ybf g.ids)):=by
 refine yao Tryz.func174 rfl rfl Tryz.ntmps174 Tryz.results174 rfl rfl ?_
 (try refine zy ?_)
 refine ydi (α:=Nat) (fun k=>[(4,i64 k),(3,i64 (ybf (g.ids.take k))),(1,.lp 1 0)]) (fun k=>[(1,some (.cells [yah g.ids,yau g.ports]))]) (fun k=>g.ids.length - k) (fun k=>k≤g.ids.length) 0 (by omega) (by exact zs) (by exact zh) ?_
 intro k hk
 (try refine zy ?_)
 refine yac rfl (fun h=>?_) (fun h=>?_)
 ·simp at h
  obtain ⟨x,hx⟩:=ycg h
  (try refine zy ?_)
  refine rnd (k+1) (by omega) (by omega) ?_ (by exact zh)
  refine yas rfl (yas ?_ (by exact zs))
  rw [yib _ _ _ hx];rfl
 ·simp at h
  obtain rfl:k=g.ids.length:=by omega
  (try refine zy ?_)
  refine yae ?_;refine ⟨_,rfl,?_⟩
  exact yai (by rw [List.take_length])
theorem max_con (ids:List Int) (hlen:ids.length≤1000) (h1:1≤ids.length) (h0:∀ x∈ids,0≤x):Con Tryz.prog 193 [yah ids] (i64 (ybf ids)):=by
 obtain ⟨a,ha⟩:=ycg (show 0 < ids.length by omega)
 have ha0:=h0 a (List.mem_of_getElem? ha)
 refine yao Tryz.func193 rfl rfl Tryz.ntmps193 Tryz.results193 rfl rfl ?_
 (try refine zy ?_)
 refine yac rfl (fun h=>?_) (fun h=>?_)
 ·simp at h;omega
 (try refine zy ?_)
 refine ydi (α:=Nat) (fun k=>[(4,i64 k),(3,i64 (ybf (ids.take k))),(0,yah ids)]) (fun k=>[]) (fun k=>ids.length - k) (fun k=>1≤k∧k≤ids.length) 1 (by omega) ?_ (by exact zh) ?_
 ·refine yas rfl (yas ?_ (by exact zs))
  have e:ybf (ids.take 1)=a:=by
   rw [yib ids 0 a ha]
   simp [ybf]
   omega
  rw [e];rfl
 intro k ⟨hk1,hk⟩
 (try refine zy ?_)
 refine yac rfl (fun h=>?_) (fun h=>?_)
 ·simp at h
  obtain ⟨x,hx⟩:=ycg h
  (try refine zy ?_)
  refine rnd (k+1) (by omega) (by omega) ?_ (by exact zh)
  refine yas rfl (yas ?_ (by exact zs))
  rw [yib _ _ _ hx];rfl
 ·simp at h
  obtain rfl:k=ids.length:=by omega
  (try refine zy ?_)
  refine yae ?_;refine ⟨_,rfl,?_⟩
  exact yai (by rw [List.take_length])
theorem zeq {h:Nat→Option LObj} {a b a' b':Int} (e1:a=a') (e2:b=b'):Frz h (.tup [.v (.int .i64 a),.v (.int .i64 b)]) (.tup [i64 a',i64 b']):=by subst e1 e2;exact Frz.pure
def zwy (q:Int × Int):AV:=.tup [i64 q.1,i64 q.2]
theorem bounds1_con (x:VarD) (g:GraphD) (v:Int) (hx:ymd x=true) (hg:ybs g=true):Con Tryz.prog 192 [.agg (ydj x),ynl g,i64 v] (.tup [i64 x.lo,i64 (x.hi+x.perNode * g.ports.length+x.perID * ybf g.ids)]):=by
 have hf:=yal hg
 have hn:=yij hx
 have ht:=zge hx hg
 have hlen:(g.ids.length:Int)=g.ports.length:=by omega
 have ht2:0≤x.perNode * (g.ids.length:Int)∧x.perNode * (g.ids.length:Int)≤255 * 24:=by rw [hlen];omega
 refine yao Tryz.func192 rfl rfl Tryz.ntmps192 Tryz.results192 rfl rfl ?_
 (repeat (first|refine zy ?_|refine yaf rfl rfl (max_con g.ids (by omega) (by omega) (fun y hy=>(hf.2.2.2.1 y hy).1)) rfl rfl ?_))
 refine yae ?_;refine ⟨_,rfl,?_⟩
 exact zeq rfl (by rw [hlen])
theorem bounds2_con (x:VarD) (g:GraphD) (v:Int):Con Tryz.prog 194 [.agg (ydj x),ynl g,i64 v] (.tup [i64 0,i64 1]):=by
 refine yao Tryz.func194 rfl rfl Tryz.ntmps194 Tryz.results194 rfl rfl ?_
 (try refine zy ?_)
 refine yae ?_;refine ⟨_,rfl,?_⟩
 exact zeq rfl rfl
theorem bounds3_con (x:VarD) (g:GraphD) (v:Int) (ls:List Lk) (h0:0≤v) (hv:g.ports[v.toNat]?=some ls) (hl:ls.length≤1000):Con Tryz.prog 195 [.agg (ydj x),ynl g,i64 v] (.tup [i64 (-1),i64 (ls.length - 1)]):=by
 refine yao Tryz.func195 rfl rfl Tryz.ntmps195 Tryz.results195 rfl rfl ?_
 (try refine zy ?_)
 refine yae ?_;refine ⟨_,rfl,?_⟩
 exact zeq rfl rfl
theorem zbq (x:VarD) (g:GraphD) (v:Int) (ls:List Lk) (hx:ymd x=true) (hg:ybs g=true) (h0:0≤v) (hv:g.ports[v.toNat]?=some ls) (hl:ls.length≤1000) :
  Con Tryz.prog 132 [.agg (ydj x),ynl g,i64 v] (zwy (yar x g ls.length)):=by
 have hn:=yij hx
 refine yao Tryz.func132 rfl rfl Tryz.ntmps132 Tryz.results132 rfl rfl ?_
 (try refine zy ?_)
 refine zqj (ypb ?_)
 (try refine zy ?_)
 refine yny tok rfl rfl rfl (by omega) (row:=[i64 1,.fn 192 []]) rfl rfl rfl ?_
 (try refine zy ?_)
 refine yac rfl (fun h1=>?_) (fun h1=>?_)
 ·simp at h1
  (repeat (first|refine zy ?_|refine yaf rfl rfl (bounds1_con x g v hx hg) rfl rfl ?_))
  refine yae ?_;refine ⟨_,rfl,?_⟩
  unfold yar
  rw [if_neg (by omega),if_neg (by omega)]
  exact Frz.pure
 simp at h1
 (try refine zy ?_)
 refine yxr (t':=[(17,i64 1),(16,i64 3),(15,.sl 2 [[i64 1,.fn 192 []],[i64 2,.fn 194 []],[i64 3,.fn 195 []]]),(3,.lp 3 0),(4,.lp 4 0),(2,i64 v)]) (h':=[(3,some (.cells (ydj x))),(4,some (.cells [yah g.ids,yau g.ports]))]) (ypb ?_) (by exact zs) (by exact zh)
 (try refine zy ?_)
 refine yny tok rfl rfl rfl (by omega) (row:=[i64 2,.fn 194 []]) rfl rfl rfl ?_
 (try refine zy ?_)
 refine yac rfl (fun h2=>?_) (fun h2=>?_)
 ·simp at h2
  (repeat (first|refine zy ?_|refine yaf rfl rfl (bounds2_con x g v) rfl rfl ?_))
  refine yae ?_;refine ⟨_,rfl,?_⟩
  unfold yar
  rw [if_pos (by omega)]
  exact Frz.pure
 simp at h2
 (try refine zy ?_)
 refine yxr (t':=[(17,i64 2),(16,i64 3),(15,.sl 2 [[i64 1,.fn 192 []],[i64 2,.fn 194 []],[i64 3,.fn 195 []]]),(3,.lp 3 0),(4,.lp 4 0),(2,i64 v)]) (h':=[(3,some (.cells (ydj x))),(4,some (.cells [yah g.ids,yau g.ports]))]) (ypb ?_) (by exact zs) (by exact zh)
 (try refine zy ?_)
 refine yny tok rfl rfl rfl (by omega) (row:=[i64 3,.fn 195 []]) rfl rfl rfl ?_
 (try refine zy ?_)
 refine yac rfl (fun h3=>?_) (fun h3=>?_)
 ·simp at h3
  (repeat (first|refine zy ?_|refine yaf rfl rfl (bounds3_con x g v ls h0 hv hl) rfl rfl ?_))
  refine yae ?_;refine ⟨_,rfl,?_⟩
  unfold yar
  rw [if_neg (by omega),if_pos (by omega)]
  exact Frz.pure
 ·simp at h3
  omega
end
section
open Go.RowKit
theorem bring_con (kind lo hi value:Int):Con Tryz.prog 230 [i64 kind,.agg [i64 lo,i64 hi],i64 value] (i64 (ylh kind lo hi value)):=by
 refine yao Tryz.func230 rfl rfl Tryz.ntmps230 Tryz.results230 rfl rfl ?_
 (try refine zy ?_)
 refine yay 12 rfl (fun h1=>?_) (fun h1=>?_)
 ·simp at h1
  (try refine zy ?_)
  refine yac rfl (fun h2=>?_) (fun h2=>?_)
  ·simp at h2
   (try refine zy ?_)
   refine yae ?_;refine ⟨_,rfl,?_⟩
   exact yai (by unfold ylh;rw [if_pos ⟨h1,h2⟩])
  simp at h2
  (try refine zy ?_)
  refine yac rfl (fun h3=>?_) (fun h3=>?_)
  ·simp at h3
   (try refine zy ?_)
   refine yae ?_;refine ⟨_,rfl,?_⟩
   exact yai (by unfold ylh;rw [if_neg (by omega),if_pos h3])
  simp at h3
  (try refine zy ?_)
  refine yac rfl (fun h4=>?_) (fun h4=>?_)
  ·simp at h4;omega
  ·(try refine zy ?_)
   refine yae ?_;refine ⟨_,rfl,?_⟩
   exact yai (by unfold ylh;rw [if_neg (by omega),if_neg h3,if_neg (by omega)])
 ·simp at h1
  (try refine zy ?_)
  refine yac rfl (fun h3=>?_) (fun h3=>?_)
  ·simp at h3
   (try refine zy ?_)
   refine yae ?_;refine ⟨_,rfl,?_⟩
   exact yai (by unfold ylh;rw [if_neg (by omega),if_pos h3])
  simp at h3
  (try refine zy ?_)
  refine yac rfl (fun h4=>?_) (fun h4=>?_)
  ·(try refine zy ?_)
   refine yae ?_;refine ⟨_,rfl,?_⟩
   exact yai (by unfold ylh;rw [if_neg (by omega),if_neg h3,if_pos h1])
  ·simp at h4;omega
structure Fair (p:ProgD) (g:GraphD):Prop where
 pin:yhi p
 light:yve p
 lg:yjt g=true
theorem Fair.vlen {p:ProgD} {g:GraphD} (h:Fair p g):p.vars.length≤1000:=h.light.1
theorem Fair.glen {p:ProgD} {g:GraphD} (h:Fair p g):g.ids.length≤30∧g.ports.length≤30∧∀ l∈g.ports,l.length≤30:=(ydh g).1 h.lg
theorem zmn (p:ProgD) (g:GraphD) (v x:Int) (ls:List Lk) (y:VarD) (hy:ymd y=true) (hg:ybs g=true) (h0:0≤v) (hv:g.ports[v.toNat]?=some ls) (hl:ls.length≤1000) (hx0:0≤x) (hx:p.vars[x.toNat]?=some y) :
  Con Tryz.prog 112 [ytn p,ynl g,i64 v,i64 x] (zwy (yar y g ls.length)):=by
 have hn:=yij hy
 have ht:=zge hy hg
 have hf:=yal hg
 refine yao Tryz.func112 rfl rfl Tryz.ntmps112 Tryz.results112 rfl rfl ?_
 (try refine zy ?_)
 refine yac rfl (fun h1=>?_) (fun h1=>?_)
 ·simp at h1
  (try refine zy ?_)
  refine yae ?_;refine ⟨_,rfl,?_⟩
  unfold yar;rw [if_pos h1];exact Frz.pure
 simp at h1
 (try refine zy ?_)
 refine yac rfl (fun h2=>?_) (fun h2=>?_)
 ·simp at h2
  (try refine zy ?_)
  refine yae ?_;refine ⟨_,rfl,?_⟩
  unfold yar;rw [if_neg h1,if_pos h2];exact Frz.pure
 simp at h2
 (repeat (first|refine zy ?_|refine yaf rfl rfl (greatest_con g (by omega)) rfl rfl ?_))
 refine yae ?_;refine ⟨_,rfl,?_⟩
 unfold yar;rw [if_neg h1,if_neg h2];exact Frz.pure
end
end Go.Proofs.YtgpbgfpjlhoicaaGreatDoor
