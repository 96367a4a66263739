/- Part 5 of the texts under TopColoursConverge: joined, with what it needs alone. -/
import Derived.Test.YtfhejdcijbgikaaGreatDoorProg
import Derived.KernelRfl
import Derived.Maps.RangeRun
import Derived.Maps.Keyed
import Derived.Carry
import Derived.Test.YtfhejdcijbgikaaGreatDoorCC1
import Derived.Test.YtfhejdcijbgikaaGreatDoorCC2
import Derived.Test.YtfhejdcijbgikaaGreatDoorCC4
set_option linter.unusedVariables false
set_option maxRecDepth 100000
namespace Go.Proofs.YtfhejdcijbgikaaGreatDoor
section
def ty_1:Ty:=⟨.other,1,false,[.nilFunc]⟩
def ty_2:Ty:=⟨(.int .i64),1,false,[(.int .i64 0)]⟩
def ty_3:Ty:=⟨(.int .i64),1,false,[(.int .i64 0)]⟩
def ty_4:Ty:=⟨.bool,1,false,[(.bool false)]⟩
def ty_5:Ty:=⟨(.int .u8),1,false,[(.int .u8 0)]⟩
def ty_6:Ty:=⟨(.int .u8),1,false,[(.int .u8 0)]⟩
def ty_7:Ty:=⟨(.strct [(0,1,false),(1,1,false),(2,1,false),(3,1,false)]),4,true,[(.int .i64 0),(.int .i64 0),(.bool false),(.int .u8 0)]⟩
def ty_8:Ty:=⟨(.strct [(0,1,false),(1,1,false),(2,1,false),(3,1,false)]),4,true,[(.int .i64 0),(.int .i64 0),(.bool false),(.int .u8 0)]⟩
def ty_9:Ty:=⟨.string,1,false,[(.string ByteArray.empty)]⟩
def ty_10:Ty:=⟨.string,1,false,[(.string ByteArray.empty)]⟩
def ty_11:Ty:=⟨.string,1,false,[(.string ByteArray.empty)]⟩
def ty_12:Ty:=⟨(.int .u64),1,false,[(.int .u64 0)]⟩
def ty_13:Ty:=⟨(.strct [(0,1,false),(1,1,false)]),2,true,[(.string ByteArray.empty),(.int .u64 0)]⟩
def ty_14:Ty:=⟨(.strct [(0,1,false),(1,1,false)]),2,true,[(.string ByteArray.empty),(.int .u64 0)]⟩
def ty_15:Ty:=⟨.other,1,false,[(.pointer none)]⟩
def ty_16:Ty:=⟨.other,1,false,[(.pointer none)]⟩
def ty_17:Ty:=⟨.other,1,false,[(.pointer none)]⟩
def ty_18:Ty:=⟨(.strct [(0,1,false)]),1,true,[(.pointer none)]⟩
def ty_19:Ty:=⟨(.strct [(0,1,false)]),1,true,[(.pointer none)]⟩
def ty_20:Ty:=⟨.other,1,false,[.nilIface]⟩
def ty_21:Ty:=⟨(.int .i32),1,false,[(.int .i32 0)]⟩
def ty_22:Ty:=⟨(.slc 168 6 true 56 [(.string ByteArray.empty),(.int .i64 0),(.int .i64 0),(.int .i64 0),(.int .i64 0),(.int .i64 0)]),1,false,[(.slice none 0 0)]⟩
def ty_23:Ty:=⟨(.slc 200 3 true 64 [(.string ByteArray.empty),(.slice none 0 0),(.slice none 0 0)]),1,false,[(.slice none 0 0)]⟩
def ty_24:Ty:=⟨(.strct [(0,1,false),(1,1,false),(2,1,false)]),3,true,[(.string ByteArray.empty),(.slice none 0 0),(.slice none 0 0)]⟩
def ty_25:Ty:=⟨(.strct [(0,1,false),(1,1,false),(2,1,false)]),3,true,[(.string ByteArray.empty),(.slice none 0 0),(.slice none 0 0)]⟩
def ty_26:Ty:=⟨(.slc 3 1 false 8 [(.int .i64 0)]),1,false,[(.slice none 0 0)]⟩
def ty_27:Ty:=⟨(.slc 123 1 false 24 [(.slice none 0 0)]),1,false,[(.slice none 0 0)]⟩
def ty_28:Ty:=⟨(.strct [(0,1,false),(1,1,false)]),2,true,[(.slice none 0 0),(.slice none 0 0)]⟩
def zyw:Ty:=⟨(.strct [(0,1,false),(1,1,false)]),2,true,[(.slice none 0 0),(.slice none 0 0)]⟩
def ty_30:Ty:=⟨(.slc 4 1 false 1 [(.bool false)]),1,false,[(.slice none 0 0)]⟩
def ty_31:Ty:=⟨(.slc 50 1 false 4 [(.int .u32 0)]),1,false,[(.slice none 0 0)]⟩
def ty_32:Ty:=⟨(.slc 85 1 false 24 [(.slice none 0 0)]),1,false,[(.slice none 0 0)]⟩
def ty_33:Ty:=⟨(.strct [(0,1,false),(1,1,false)]),2,true,[(.slice none 0 0),(.slice none 0 0)]⟩
def zyx:Ty:=⟨(.strct [(0,1,false),(1,1,false)]),2,true,[(.slice none 0 0),(.slice none 0 0)]⟩
def ty_36:Ty:=⟨.other,1,false,[.nilFunc]⟩
def ty_37:Ty:=⟨.other,1,false,[.nilFunc]⟩
def ty_38:Ty:=⟨(.int .i64),1,false,[(.int .i64 0)]⟩
def ty_40:Ty:=⟨.other,1,false,[.nilFunc]⟩
def ty_41:Ty:=⟨.other,1,false,[.nilFunc]⟩
def ty_42:Ty:=⟨.other,1,false,[.nilFunc]⟩
def ty_44:Ty:=⟨.other,1,false,[.nilFunc]⟩
def ty_46:Ty:=⟨.other,1,false,[.nilFunc]⟩
def ty_47:Ty:=⟨(.slc 26 1 false 24 [(.slice none 0 0)]),1,false,[(.slice none 0 0)]⟩
def ty_49:Ty:=⟨.other,1,false,[.nilFunc]⟩
def ty_50:Ty:=⟨(.int .u32),1,false,[(.int .u32 0)]⟩
def ty_51:Ty:=⟨(.strct [(0,1,false),(1,1,false),(2,1,false),(3,1,false),(4,1,false)]),5,true,[(.int .i64 0),(.int .i64 0),(.int .i64 0),(.int .i64 0),(.int .u32 0)]⟩
def ty_52:Ty:=⟨(.strct [(0,1,false),(1,1,false),(2,1,false),(3,1,false),(4,1,false)]),5,true,[(.int .i64 0),(.int .i64 0),(.int .i64 0),(.int .i64 0),(.int .u32 0)]⟩
def ty_53:Ty:=⟨(.strct [(0,1,false),(1,1,false),(2,1,false),(3,5,true)]),8,true,[(.slice none 0 0),(.slice none 0 0),(.slice none 0 0),(.int .i64 0),(.int .i64 0),(.int .i64 0),(.int .i64 0),(.int .u32 0)]⟩
def zvv:Ty:=⟨(.strct [(0,1,false),(1,1,false),(2,1,false),(3,5,true)]),8,true,[(.slice none 0 0),(.slice none 0 0),(.slice none 0 0),(.int .i64 0),(.int .i64 0),(.int .i64 0),(.int .i64 0),(.int .u32 0)]⟩
def ty_56:Ty:=⟨.other,1,false,[.nilFunc]⟩
def ty_58:Ty:=⟨.other,1,false,[.nilFunc]⟩
def ty_59:Ty:=⟨.other,1,false,[.nilFunc]⟩
def ty_60:Ty:=⟨(.slc 68 1 false 24 [(.slice none 0 0)]),1,false,[(.slice none 0 0)]⟩
def ty_61:Ty:=⟨.other,1,false,[.nilFunc]⟩
def ty_62:Ty:=⟨.other,1,false,[.nilFunc]⟩
def ty_63:Ty:=⟨(.slc 47 1 false 24 [(.slice none 0 0)]),1,false,[(.slice none 0 0)]⟩
def ty_64:Ty:=⟨(.slc 52 5 true 40 [(.int .i64 0),(.int .i64 0),(.int .i64 0),(.int .i64 0),(.int .u32 0)]),1,false,[(.slice none 0 0)]⟩
def ty_66:Ty:=⟨.other,1,false,[.nilFunc]⟩
def ty_67:Ty:=⟨.other,1,false,[.nilFunc]⟩
def ty_68:Ty:=⟨(.slc 249 2 true 16 [(.int .i64 0),(.int .i64 0)]),1,false,[(.slice none 0 0)]⟩
def ty_69:Ty:=⟨.other,1,false,[.nilFunc]⟩
def ty_70:Ty:=⟨.other,1,false,[.nilFunc]⟩
def ty_71:Ty:=⟨.other,1,false,[.nilFunc]⟩
def ty_72:Ty:=⟨.other,1,false,[.nilFunc]⟩
def ty_73:Ty:=⟨.other,1,false,[.nilFunc]⟩
def ty_75:Ty:=⟨.other,1,false,[.nilFunc]⟩
def ty_76:Ty:=⟨.other,1,false,[.nilFunc]⟩
def ty_77:Ty:=⟨.other,1,false,[.nilFunc]⟩
def ty_78:Ty:=⟨.other,1,false,[.nilFunc]⟩
def ty_80:Ty:=⟨.other,1,false,[.nilFunc]⟩
def ty_81:Ty:=⟨.other,1,false,[.nilFunc]⟩
def ty_83:Ty:=⟨.other,1,false,[.nilFunc]⟩
def ty_84:Ty:=⟨.other,1,false,[.nilFunc]⟩
def ty_85:Ty:=⟨(.slc 90 2 true 16 [(.int .u32 0),(.int .i64 0)]),1,false,[(.slice none 0 0)]⟩
def ty_86:Ty:=⟨.other,1,false,[.nilFunc]⟩
def ty_87:Ty:=⟨.other,1,false,[.nilFunc]⟩
def ty_88:Ty:=⟨.other,1,false,[.nilFunc]⟩
def ty_89:Ty:=⟨(.strct [(0,1,false),(1,1,false)]),2,true,[(.int .u32 0),(.int .i64 0)]⟩
def zyy:Ty:=⟨(.strct [(0,1,false),(1,1,false)]),2,true,[(.int .u32 0),(.int .i64 0)]⟩
def ty_91:Ty:=⟨.other,1,false,[.nilFunc]⟩
def ty_92:Ty:=⟨.other,1,false,[.nilFunc]⟩
def ty_93:Ty:=⟨.other,1,false,[.nilFunc]⟩
def ty_94:Ty:=⟨.other,1,false,[.nilFunc]⟩
def ty_95:Ty:=⟨.other,1,false,[(.pointer none)]⟩
def ty_96:Ty:=⟨(.slc 50 1 false 4 [(.int .u32 0)]),1,false,[(.slice none 0 0)]⟩
def ty_97:Ty:=⟨.other,1,false,[.nilFunc]⟩
def ty_98:Ty:=⟨(.strct [(0,1,false),(1,1,false),(2,1,false),(3,1,false),(4,1,false)]),5,true,[(.pointer none),(.slice none 0 0),(.int .i64 0),(.int .u32 0),.nilFunc]⟩
def ty_99:Ty:=⟨(.strct [(0,1,false),(1,1,false),(2,1,false),(3,1,false),(4,1,false)]),5,true,[(.pointer none),(.slice none 0 0),(.int .i64 0),(.int .u32 0),.nilFunc]⟩
def ty_100:Ty:=⟨.other,1,false,[.nilFunc]⟩
def ty_101:Ty:=⟨.other,1,false,[.nilFunc]⟩
def ty_102:Ty:=⟨.other,1,false,[.nilFunc]⟩
def ty_103:Ty:=⟨(.slc 106 1 false 24 [(.slice none 0 0)]),1,false,[(.slice none 0 0)]⟩
def ty_104:Ty:=⟨.other,1,false,[.nilFunc]⟩
def ty_105:Ty:=⟨.other,1,false,[.nilFunc]⟩
def ty_106:Ty:=⟨(.slc 107 2 true 16 [(.int .i64 0),(.int .i64 0)]),1,false,[(.slice none 0 0)]⟩
def ty_107:Ty:=⟨(.arr 2 1 false),2,true,[(.int .i64 0),(.int .i64 0)]⟩
def ty_108:Ty:=⟨.other,1,false,[.nilFunc]⟩
def ty_109:Ty:=⟨.other,1,false,[.nilFunc]⟩
def ty_110:Ty:=⟨.other,1,false,[.nilFunc]⟩
def ty_111:Ty:=⟨.other,1,false,[.nilFunc]⟩
def ty_113:Ty:=⟨.other,1,false,[.nilFunc]⟩
def ty_114:Ty:=⟨.other,1,false,[.nilFunc]⟩
def ty_115:Ty:=⟨.other,1,false,[.nilFunc]⟩
def ty_116:Ty:=⟨.other,1,false,[.nilFunc]⟩
def ty_117:Ty:=⟨.other,1,false,[.nilFunc]⟩
def ty_118:Ty:=⟨.other,1,false,[.nilFunc]⟩
def ty_119:Ty:=⟨.other,1,false,[.nilFunc]⟩
def ty_120:Ty:=⟨.other,1,false,[(.pointer none)]⟩
def ty_121:Ty:=⟨.other,1,false,[.nilFunc]⟩
def ty_122:Ty:=⟨.other,1,false,[.nilFunc]⟩
def ty_123:Ty:=⟨(.slc 126 2 true 16 [(.int .i64 0),(.int .i64 0)]),1,false,[(.slice none 0 0)]⟩
def ty_124:Ty:=⟨.other,1,false,[.nilFunc]⟩
def ty_125:Ty:=⟨(.strct [(0,1,false),(1,1,false)]),2,true,[(.int .i64 0),(.int .i64 0)]⟩
def ty_126:Ty:=⟨(.strct [(0,1,false),(1,1,false)]),2,true,[(.int .i64 0),(.int .i64 0)]⟩
def ty_127:Ty:=⟨.other,1,false,[.nilFunc]⟩
def ty_128:Ty:=⟨(.slc 186 4 true 32 [(.int .i64 0),(.int .i64 0),(.int .i64 0),(.int .i64 0)]),1,false,[(.slice none 0 0)]⟩
def ty_130:Ty:=⟨.other,1,false,[.nilFunc]⟩
def ty_131:Ty:=⟨.other,1,false,[(.pointer none)]⟩
def ty_132:Ty:=⟨(.slc 9 1 false 16 [(.string ByteArray.empty)]),1,false,[(.slice none 0 0)]⟩
def ty_133:Ty:=⟨(.strct [(0,1,false),(1,1,false),(2,1,false)]),3,true,[(.string ByteArray.empty),(.slice none 0 0),(.slice none 0 0)]⟩
def ty_134:Ty:=⟨(.strct [(0,1,false),(1,1,false),(2,1,false)]),3,true,[(.string ByteArray.empty),(.slice none 0 0),(.slice none 0 0)]⟩
def ty_135:Ty:=⟨(.strct [(0,3,true),(3,3,true),(6,1,false)]),7,true,[(.string ByteArray.empty),(.slice none 0 0),(.slice none 0 0),(.string ByteArray.empty),(.slice none 0 0),(.slice none 0 0),(.slice none 0 0)]⟩
def ty_136:Ty:=⟨(.strct [(0,3,true),(3,3,true),(6,1,false)]),7,true,[(.string ByteArray.empty),(.slice none 0 0),(.slice none 0 0),(.string ByteArray.empty),(.slice none 0 0),(.slice none 0 0),(.slice none 0 0)]⟩
def ty_137:Ty:=⟨.other,1,false,[.nilFunc]⟩
def ty_138:Ty:=⟨.other,1,false,[.nilFunc]⟩
def ty_139:Ty:=⟨.other,1,false,[.nilFunc]⟩
def ty_140:Ty:=⟨.other,1,false,[.nilFunc]⟩
def ty_141:Ty:=⟨.other,1,false,[.nilFunc]⟩
def ty_142:Ty:=⟨.other,1,false,[.nilFunc]⟩
def ty_143:Ty:=⟨.other,1,false,[.nilFunc]⟩
def ty_144:Ty:=⟨.other,1,false,[.nilFunc]⟩
def ty_145:Ty:=⟨.other,1,false,[(.pointer none)]⟩
def ty_146:Ty:=⟨.other,1,false,[.nilFunc]⟩
def ty_147:Ty:=⟨.other,1,false,[.nilFunc]⟩
def ty_149:Ty:=⟨.other,1,false,[.nilFunc]⟩
def ty_150:Ty:=⟨.other,1,false,[.nilFunc]⟩
def ty_151:Ty:=⟨(.strct [(0,1,false),(1,1,false),(2,1,false),(3,1,false),(4,1,false)]),5,true,[(.pointer none),(.slice none 0 0),(.int .i64 0),(.slice none 0 0),(.slice none 0 0)]⟩
def ty_152:Ty:=⟨(.strct [(0,1,false),(1,1,false),(2,1,false),(3,1,false),(4,1,false)]),5,true,[(.pointer none),(.slice none 0 0),(.int .i64 0),(.slice none 0 0),(.slice none 0 0)]⟩
def ty_153:Ty:=⟨.other,1,false,[.nilFunc]⟩
def ty_154:Ty:=⟨.other,1,false,[.nilFunc]⟩
def ty_155:Ty:=⟨.other,1,false,[.nilFunc]⟩
def ty_156:Ty:=⟨.other,1,false,[.nilFunc]⟩
def ty_157:Ty:=⟨.other,1,false,[.nilFunc]⟩
def ty_158:Ty:=⟨.other,1,false,[.nilFunc]⟩
def ty_160:Ty:=⟨.other,1,false,[.nilFunc]⟩
def ty_161:Ty:=⟨.other,1,false,[.nilFunc]⟩
def ty_162:Ty:=⟨.other,1,false,[.nilFunc]⟩
def ty_163:Ty:=⟨.other,1,false,[.nilFunc]⟩
def ty_164:Ty:=⟨.other,1,false,[.nilFunc]⟩
def ty_165:Ty:=⟨.other,1,false,[.nilFunc]⟩
def ty_166:Ty:=⟨.other,1,false,[.nilFunc]⟩
def ty_167:Ty:=⟨(.strct [(0,1,false),(1,1,false),(2,1,false),(3,1,false),(4,1,false),(5,1,false)]),6,true,[(.string ByteArray.empty),(.int .i64 0),(.int .i64 0),(.int .i64 0),(.int .i64 0),(.int .i64 0)]⟩
def ty_168:Ty:=⟨(.strct [(0,1,false),(1,1,false),(2,1,false),(3,1,false),(4,1,false),(5,1,false)]),6,true,[(.string ByteArray.empty),(.int .i64 0),(.int .i64 0),(.int .i64 0),(.int .i64 0),(.int .i64 0)]⟩
def ty_169:Ty:=⟨.other,1,false,[.nilFunc]⟩
def ty_170:Ty:=⟨.other,1,false,[.nilFunc]⟩
def ty_171:Ty:=⟨.other,1,false,[.nilFunc]⟩
def ty_172:Ty:=⟨.other,1,false,[.nilFunc]⟩
def ty_174:Ty:=⟨.other,1,false,[.nilFunc]⟩
def ty_175:Ty:=⟨.other,1,false,[.nilFunc]⟩
def ty_176:Ty:=⟨.other,1,false,[.nilFunc]⟩
def ty_177:Ty:=⟨.other,1,false,[.nilFunc]⟩
def ty_178:Ty:=⟨.other,1,false,[.nilFunc]⟩
def ty_179:Ty:=⟨.other,1,false,[.nilFunc]⟩
def ty_180:Ty:=⟨.other,1,false,[.nilFunc]⟩
def ty_181:Ty:=⟨.other,1,false,[.nilFunc]⟩
def ty_182:Ty:=⟨(.strct [(0,3,true),(3,2,true),(5,1,false),(6,1,false)]),7,true,[(.string ByteArray.empty),(.slice none 0 0),(.slice none 0 0),(.slice none 0 0),(.slice none 0 0),(.int .i64 0),(.slice none 0 0)]⟩
def ty_183:Ty:=⟨(.strct [(0,3,true),(3,2,true),(5,1,false),(6,1,false)]),7,true,[(.string ByteArray.empty),(.slice none 0 0),(.slice none 0 0),(.slice none 0 0),(.slice none 0 0),(.int .i64 0),(.slice none 0 0)]⟩
def ty_184:Ty:=⟨.other,1,false,[.nilFunc]⟩
def ty_185:Ty:=⟨(.strct [(0,1,false),(1,1,false),(2,1,false),(3,1,false)]),4,true,[(.int .i64 0),(.int .i64 0),(.int .i64 0),(.int .i64 0)]⟩
def ty_186:Ty:=⟨(.strct [(0,1,false),(1,1,false),(2,1,false),(3,1,false)]),4,true,[(.int .i64 0),(.int .i64 0),(.int .i64 0),(.int .i64 0)]⟩
def ty_188:Ty:=⟨.other,1,false,[.nilFunc]⟩
def ty_189:Ty:=⟨(.strct [(0,1,false),(1,1,false)]),2,true,[(.int .i64 0),(.int .i64 0)]⟩
def ty_190:Ty:=⟨(.strct [(0,1,false),(1,1,false)]),2,true,[(.int .i64 0),(.int .i64 0)]⟩
def ty_192:Ty:=⟨.other,1,false,[.nilFunc]⟩
def ty_193:Ty:=⟨.other,1,false,[.nilFunc]⟩
def ty_194:Ty:=⟨.other,1,false,[.nilFunc]⟩
def ty_195:Ty:=⟨.other,1,false,[.nilFunc]⟩
def ty_196:Ty:=⟨.other,1,false,[.nilFunc]⟩
def ty_197:Ty:=⟨.other,1,false,[.nilFunc]⟩
def ty_198:Ty:=⟨(.slc 272 2 true 32 [(.int .i64 0),(.slice none 0 0)]),1,false,[(.slice none 0 0)]⟩
def ty_199:Ty:=⟨(.strct [(0,1,false),(1,1,false),(2,1,false)]),3,true,[(.string ByteArray.empty),(.slice none 0 0),(.slice none 0 0)]⟩
def ty_200:Ty:=⟨(.strct [(0,1,false),(1,1,false),(2,1,false)]),3,true,[(.string ByteArray.empty),(.slice none 0 0),(.slice none 0 0)]⟩
def ty_201:Ty:=⟨.other,1,false,[.nilFunc]⟩
def ty_202:Ty:=⟨.other,1,false,[.nilFunc]⟩
def ty_203:Ty:=⟨.other,1,false,[.nilFunc]⟩
def ty_204:Ty:=⟨.other,1,false,[.nilFunc]⟩
def ty_205:Ty:=⟨(.slc 31 1 false 24 [(.slice none 0 0)]),1,false,[(.slice none 0 0)]⟩
def ty_207:Ty:=⟨.other,1,false,[.nilFunc]⟩
def ty_208:Ty:=⟨(.map 210 3),1,false,[(.map none)]⟩
def ty_209:Ty:=⟨(.strct [(0,1,false),(1,1,false)]),2,true,[(.int .i64 0),(.int .u32 0)]⟩
def zuv:Ty:=⟨(.strct [(0,1,false),(1,1,false)]),2,true,[(.int .i64 0),(.int .u32 0)]⟩
def ty_212:Ty:=⟨.other,1,false,[.nilFunc]⟩
def ty_213:Ty:=⟨.other,1,false,[.nilFunc]⟩
def ty_214:Ty:=⟨.other,1,false,[.nilFunc]⟩
def ty_215:Ty:=⟨.other,1,false,[.nilFunc]⟩
def ty_216:Ty:=⟨(.int .u64),1,false,[(.int .u64 0)]⟩
def ty_217:Ty:=⟨.other,1,false,[.nilFunc]⟩
def ty_218:Ty:=⟨.other,1,false,[.nilFunc]⟩
def ty_219:Ty:=⟨.other,1,false,[.nilFunc]⟩
def ty_220:Ty:=⟨.other,1,false,[.nilFunc]⟩
def ty_221:Ty:=⟨(.arr 24 1 false),24,true,[(.int .i64 0),(.int .i64 0),(.int .i64 0),(.int .i64 0),(.int .i64 0),(.int .i64 0),(.int .i64 0),(.int .i64 0),(.int .i64 0),(.int .i64 0),(.int .i64 0),(.int .i64 0),(.int .i64 0),(.int .i64 0),(.int .i64 0),(.int .i64 0),(.int .i64 0),(.int .i64 0),(.int .i64 0),(.int .i64 0),(.int .i64 0),(.int .i64 0),(.int .i64 0),(.int .i64 0)]⟩
def ty_222:Ty:=⟨.other,1,false,[.nilFunc]⟩
def ty_223:Ty:=⟨.other,1,false,[.nilFunc]⟩
def ty_224:Ty:=⟨.other,1,false,[.nilFunc]⟩
def ty_225:Ty:=⟨.other,1,false,[.nilFunc]⟩
def ty_226:Ty:=⟨.other,1,false,[.nilFunc]⟩
def ty_227:Ty:=⟨.other,1,false,[.nilFunc]⟩
def ty_228:Ty:=⟨.other,1,false,[.nilFunc]⟩
def ty_229:Ty:=⟨.other,1,false,[.nilFunc]⟩
def ty_230:Ty:=⟨.other,1,false,[.nilFunc]⟩
def ty_231:Ty:=⟨.other,1,false,[.nilFunc]⟩
def ty_232:Ty:=⟨.other,1,false,[.nilFunc]⟩
def ty_233:Ty:=⟨.other,1,false,[.nilFunc]⟩
def ty_234:Ty:=⟨.other,1,false,[.nilFunc]⟩
def ty_235:Ty:=⟨(.strct [(0,3,true),(3,1,false),(4,1,false)]),5,true,[(.string ByteArray.empty),(.slice none 0 0),(.slice none 0 0),(.pointer none),(.slice none 0 0)]⟩
def ty_236:Ty:=⟨(.strct [(0,3,true),(3,1,false),(4,1,false)]),5,true,[(.string ByteArray.empty),(.slice none 0 0),(.slice none 0 0),(.pointer none),(.slice none 0 0)]⟩
def ty_237:Ty:=⟨.other,1,false,[.nilFunc]⟩
def ty_239:Ty:=⟨.other,1,false,[.nilFunc]⟩
def ty_240:Ty:=⟨.other,1,false,[.nilFunc]⟩
def ty_241:Ty:=⟨.other,1,false,[.nilFunc]⟩
def ty_242:Ty:=⟨.other,1,false,[.nilFunc]⟩
def ty_243:Ty:=⟨(.strct [(0,1,false),(1,1,false)]),2,true,[(.int .i64 0),.nilFunc]⟩
def ty_244:Ty:=⟨(.strct [(0,1,false),(1,1,false)]),2,true,[(.int .i64 0),.nilFunc]⟩
def ty_245:Ty:=⟨(.slc 244 2 true 16 [(.int .i64 0),.nilFunc]),1,false,[(.slice none 0 0)]⟩
def ty_246:Ty:=⟨.other,1,false,[.nilFunc]⟩
def ty_247:Ty:=⟨.other,1,false,[.nilFunc]⟩
def ty_248:Ty:=⟨(.strct [(0,1,false),(1,1,false)]),2,true,[(.int .i64 0),(.int .i64 0)]⟩
def ty_249:Ty:=⟨(.strct [(0,1,false),(1,1,false)]),2,true,[(.int .i64 0),(.int .i64 0)]⟩
def ty_250:Ty:=⟨.other,1,false,[.nilFunc]⟩
def ty_251:Ty:=⟨.other,1,false,[.nilFunc]⟩
def ty_252:Ty:=⟨(.strct [(0,1,false),(1,1,false)]),2,true,[(.slice none 0 0),(.slice none 0 0)]⟩
def ty_253:Ty:=⟨(.strct [(0,1,false),(1,1,false)]),2,true,[(.slice none 0 0),(.slice none 0 0)]⟩
def ty_254:Ty:=⟨.other,1,false,[.nilFunc]⟩
def ty_255:Ty:=⟨(.strct [(0,1,false),(1,1,false),(2,1,false),(3,1,false)]),4,true,[(.pointer none),(.slice none 0 0),(.int .i64 0),(.slice none 0 0)]⟩
def ty_256:Ty:=⟨(.strct [(0,1,false),(1,1,false),(2,1,false),(3,1,false)]),4,true,[(.pointer none),(.slice none 0 0),(.int .i64 0),(.slice none 0 0)]⟩
def ty_257:Ty:=⟨.other,1,false,[.nilFunc]⟩
def ty_258:Ty:=⟨.other,1,false,[.nilFunc]⟩
def ty_259:Ty:=⟨.other,1,false,[.nilFunc]⟩
def ty_261:Ty:=⟨.other,1,false,[.nilFunc]⟩
def ty_262:Ty:=⟨.other,1,false,[.nilFunc]⟩
def ty_263:Ty:=⟨.other,1,false,[(.pointer none)]⟩
def ty_264:Ty:=⟨.other,1,false,[.nilFunc]⟩
def ty_265:Ty:=⟨.other,1,false,[.nilFunc]⟩
def ty_266:Ty:=⟨.other,1,false,[.nilFunc]⟩
def ty_267:Ty:=⟨.other,1,false,[.nilFunc]⟩
def ty_268:Ty:=⟨.other,1,false,[.nilFunc]⟩
def ty_269:Ty:=⟨.other,1,false,[(.pointer none)]⟩
def ty_270:Ty:=⟨.other,1,false,[.nilFunc]⟩
def ty_271:Ty:=⟨(.strct [(0,1,false),(1,1,false)]),2,true,[(.int .i64 0),(.slice none 0 0)]⟩
def ty_272:Ty:=⟨(.strct [(0,1,false),(1,1,false)]),2,true,[(.int .i64 0),(.slice none 0 0)]⟩
def ty_273:Ty:=⟨(.map 9 4),1,false,[(.map none)]⟩
def ty_274:Ty:=⟨(.map 3 4),1,false,[(.map none)]⟩
def ty_275:Ty:=⟨(.map 210 4),1,false,[(.map none)]⟩
def ty_276:Ty:=⟨(.slc 210 2 true 16 [(.int .i64 0),(.int .u32 0)]),1,false,[(.slice none 0 0)]⟩
def ty_277:Ty:=⟨.other,1,false,[.nilFunc]⟩
def ty_278:Ty:=⟨.other,1,false,[.nilFunc]⟩
def ty_279:Ty:=⟨.other,1,false,[.nilFunc]⟩
def ty_280:Ty:=⟨.other,1,false,[.nilFunc]⟩
def ty_281:Ty:=⟨.other,1,false,[.nilFunc]⟩
def ty_282:Ty:=⟨.other,1,false,[.nilFunc]⟩
def ty_283:Ty:=⟨.other,1,false,[.nilFunc]⟩
def ty_284:Ty:=⟨.other,1,false,[.nilFunc]⟩
def ty_285:Ty:=⟨.other,1,false,[.nilFunc]⟩
def ty_286:Ty:=⟨.other,1,false,[.nilFunc]⟩
def ty_287:Ty:=⟨.other,1,false,[.nilFunc]⟩
def ty_288:Ty:=⟨.other,1,false,[.nilFunc]⟩
def ty_289:Ty:=⟨.other,1,false,[.nilFunc]⟩
def ty_290:Ty:=⟨.other,1,false,[.nilFunc]⟩
def ty_291:Ty:=⟨.other,1,false,[.nilFunc]⟩
def ty_292:Ty:=⟨.other,1,false,[.nilFunc]⟩
def ty_293:Ty:=⟨.other,1,false,[.nilFunc]⟩
def ty_294:Ty:=⟨.other,1,false,[.nilFunc]⟩
def ty_295:Ty:=⟨.other,1,false,[.nilFunc]⟩
def ty_296:Ty:=⟨.other,1,false,[.nilFunc]⟩
def ty_297:Ty:=⟨(.arr 3 1 false),3,true,[(.int .i64 0),(.int .i64 0),(.int .i64 0)]⟩
def ty_298:Ty:=⟨.other,1,false,[.nilFunc]⟩
def ty_299:Ty:=⟨.other,1,false,[(.pointer none)]⟩
def ty_300:Ty:=⟨.other,1,false,[.nilFunc]⟩
def ty_301:Ty:=⟨.other,1,false,[.nilFunc]⟩
def ty_302:Ty:=⟨.other,1,false,[.nilFunc]⟩
def ty_303:Ty:=⟨.other,1,false,[.nilFunc]⟩
def ty_304:Ty:=⟨.other,1,false,[.nilFunc]⟩
def ty_305:Ty:=⟨.other,1,false,[.nilFunc]⟩
def ty_306:Ty:=⟨.other,1,false,[.nilFunc]⟩
def ty_307:Ty:=⟨.other,1,false,[.nilFunc]⟩
def ty_308:Ty:=⟨.other,1,false,[.nilFunc]⟩
def ty_309:Ty:=⟨.other,1,false,[.nilFunc]⟩
def ty_310:Ty:=⟨.other,1,false,[.nilFunc]⟩
def ty_311:Ty:=⟨.other,1,false,[.nilFunc]⟩
def ty_312:Ty:=⟨(.arr 32 1 false),32,true,[(.int .u8 0),(.int .u8 0),(.int .u8 0),(.int .u8 0),(.int .u8 0),(.int .u8 0),(.int .u8 0),(.int .u8 0),(.int .u8 0),(.int .u8 0),(.int .u8 0),(.int .u8 0),(.int .u8 0),(.int .u8 0),(.int .u8 0),(.int .u8 0),(.int .u8 0),(.int .u8 0),(.int .u8 0),(.int .u8 0),(.int .u8 0),(.int .u8 0),(.int .u8 0),(.int .u8 0),(.int .u8 0),(.int .u8 0),(.int .u8 0),(.int .u8 0),(.int .u8 0),(.int .u8 0),(.int .u8 0),(.int .u8 0)]⟩
def ty_313:Ty:=⟨.other,1,false,[.nilFunc]⟩
def ty_314:Ty:=⟨(.arr 256 1 false),256,true,[(.bool false),(.bool false),(.bool false),(.bool false),(.bool false),(.bool false),(.bool false),(.bool false),(.bool false),(.bool false),(.bool false),(.bool false),(.bool false),(.bool false),(.bool false),(.bool false),(.bool false),(.bool false),(.bool false),(.bool false),(.bool false),(.bool false),(.bool false),(.bool false),(.bool false),(.bool false),(.bool false),(.bool false),(.bool false),(.bool false),(.bool false),(.bool false),(.bool false),(.bool false),(.bool false),(.bool false),(.bool false),(.bool false),(.bool false),(.bool false),(.bool false),(.bool false),(.bool false),(.bool false),(.bool false),(.bool false),(.bool false),(.bool false),(.bool false),(.bool false),(.bool false),(.bool false),(.bool false),(.bool false),(.bool false),(.bool false),(.bool false),(.bool false),(.bool false),(.bool false),(.bool false),(.bool false),(.bool false),(.bool false),(.bool false),(.bool false),(.bool false),(.bool false),(.bool false),(.bool false),(.bool false),(.bool false),(.bool false),(.bool false),(.bool false),(.bool false),(.bool false),(.bool false),(.bool false),(.bool false),(.bool false),(.bool false),(.bool false),(.bool false),(.bool false),(.bool false),(.bool false),(.bool false),(.bool false),(.bool false),(.bool false),(.bool false),(.bool false),(.bool false),(.bool false),(.bool false),(.bool false),(.bool false),(.bool false),(.bool false),(.bool false),(.bool false),(.bool false),(.bool false),(.bool false),(.bool false),(.bool false),(.bool false),(.bool false),(.bool false),(.bool false),(.bool false),(.bool false),(.bool false),(.bool false),(.bool false),(.bool false),(.bool false),(.bool false),(.bool false),(.bool false),(.bool false),(.bool false),(.bool false),(.bool false),(.bool false),(.bool false),(.bool false),(.bool false),(.bool false),(.bool false),(.bool false),(.bool false),(.bool false),(.bool false),(.bool false),(.bool false),(.bool false),(.bool false),(.bool false),(.bool false),(.bool false),(.bool false),(.bool false),(.bool false),(.bool false),(.bool false),(.bool false),(.bool false),(.bool false),(.bool false),(.bool false),(.bool false),(.bool false),(.bool false),(.bool false),(.bool false),(.bool false),(.bool false),(.bool false),(.bool false),(.bool false),(.bool false),(.bool false),(.bool false),(.bool false),(.bool false),(.bool false),(.bool false),(.bool false),(.bool false),(.bool false),(.bool false),(.bool false),(.bool false),(.bool false),(.bool false),(.bool false),(.bool false),(.bool false),(.bool false),(.bool false),(.bool false),(.bool false),(.bool false),(.bool false),(.bool false),(.bool false),(.bool false),(.bool false),(.bool false),(.bool false),(.bool false),(.bool false),(.bool false),(.bool false),(.bool false),(.bool false),(.bool false),(.bool false),(.bool false),(.bool false),(.bool false),(.bool false),(.bool false),(.bool false),(.bool false),(.bool false),(.bool false),(.bool false),(.bool false),(.bool false),(.bool false),(.bool false),(.bool false),(.bool false),(.bool false),(.bool false),(.bool false),(.bool false),(.bool false),(.bool false),(.bool false),(.bool false),(.bool false),(.bool false),(.bool false),(.bool false),(.bool false),(.bool false),(.bool false),(.bool false),(.bool false),(.bool false),(.bool false),(.bool false),(.bool false),(.bool false),(.bool false),(.bool false),(.bool false),(.bool false),(.bool false),(.bool false),(.bool false),(.bool false),(.bool false),(.bool false),(.bool false),(.bool false),(.bool false),(.bool false),(.bool false),(.bool false),(.bool false),(.bool false)]⟩
def ty_315:Ty:=⟨(.map 107 3),1,false,[(.map none)]⟩
def ty_316:Ty:=⟨.other,1,false,[.nilFunc]⟩
def ty_317:Ty:=⟨.other,1,false,[.nilFunc]⟩
def ty_318:Ty:=⟨.other,1,false,[.nilFunc]⟩
def ty_319:Ty:=⟨.other,1,false,[.nilFunc]⟩
def ty_320:Ty:=⟨.other,1,false,[.nilFunc]⟩
def ty_321:Ty:=⟨.other,1,false,[.nilFunc]⟩
def ty_322:Ty:=⟨.other,1,false,[.nilFunc]⟩
def ty_323:Ty:=⟨.other,1,false,[.nilFunc]⟩
def ty_324:Ty:=⟨.other,1,false,[.nilFunc]⟩
def ty_325:Ty:=⟨.other,1,false,[.nilFunc]⟩
def ty_326:Ty:=⟨.other,1,false,[.nilFunc]⟩
def ty_327:Ty:=⟨.other,1,false,[.nilFunc]⟩
def ty_328:Ty:=⟨.other,1,false,[.nilFunc]⟩
def ty_329:Ty:=⟨(.strct [(0,1,false),(1,1,false),(2,1,false),(3,1,false)]),4,true,[(.pointer none),(.pointer none),(.pointer none),(.string ByteArray.empty)]⟩
def ty_330:Ty:=⟨(.strct [(0,1,false),(1,1,false),(2,1,false),(3,1,false)]),4,true,[(.pointer none),(.pointer none),(.pointer none),(.string ByteArray.empty)]⟩
def ty_334:Ty:=⟨(.int .u8),1,false,[(.int .u8 0)]⟩
def ty_335:Ty:=⟨(.int .u8),1,false,[(.int .u8 0)]⟩
def ty_336:Ty:=⟨.other,1,false,[.nilFunc]⟩
def ty_337:Ty:=⟨.other,1,false,[(.pointer none)]⟩
def ty_338:Ty:=⟨(.int .i32),1,false,[(.int .i32 0)]⟩
def ty_339:Ty:=⟨(.int .i32),1,false,[(.int .i32 0)]⟩
def ty_340:Ty:=⟨(.strct [(0,1,false),(1,1,false),(2,1,false),(3,1,false),(4,1,false),(5,1,false),(6,1,false),(7,1,false),(8,1,false),(9,1,false),(10,1,false)]),11,true,[(.int .u64 0),(.int .u64 0),(.int .u32 0),(.int .u8 0),(.int .u8 0),(.int .u8 0),(.int .u8 0),.nilFunc,(.pointer none),(.int .i32 0),(.int .i32 0)]⟩
def ty_341:Ty:=⟨(.strct [(0,1,false),(1,1,false),(2,1,false),(3,1,false),(4,1,false),(5,1,false),(6,1,false),(7,1,false),(8,1,false),(9,1,false),(10,1,false)]),11,true,[(.int .u64 0),(.int .u64 0),(.int .u32 0),(.int .u8 0),(.int .u8 0),(.int .u8 0),(.int .u8 0),.nilFunc,(.pointer none),(.int .i32 0),(.int .i32 0)]⟩
def ty_342:Ty:=⟨.other,1,false,[(.pointer none)]⟩
def tabL:List (Nat × Ty):=[(1,ty_1),(2,ty_2),(3,ty_3),(4,ty_4),(5,ty_5),(6,ty_6),(7,ty_7),(8,ty_8),(9,ty_9),(10,ty_10),(11,ty_11),(12,ty_12),(13,ty_13),(14,ty_14),(15,ty_15),(16,ty_16),(17,ty_17),(18,ty_18),(19,ty_19),(20,ty_20),(21,ty_21),(22,ty_22),(23,ty_23),(24,ty_24),(25,ty_25),(26,ty_26),(27,ty_27),(28,ty_28),(29,zyw),(30,ty_30),(31,ty_31),(32,ty_32),(33,ty_33),(34,zyx),(36,ty_36),(37,ty_37),(38,ty_38),(40,ty_40),(41,ty_41),(42,ty_42),(44,ty_44),(46,ty_46),(47,ty_47),(49,ty_49),(50,ty_50),(51,ty_51),(52,ty_52),(53,ty_53),(54,zvv),(56,ty_56),(58,ty_58),(59,ty_59),(60,ty_60),(61,ty_61),(62,ty_62),(63,ty_63),(64,ty_64),(66,ty_66),(67,ty_67),(68,ty_68),(69,ty_69),(70,ty_70),(71,ty_71),(72,ty_72),(73,ty_73),(75,ty_75),(76,ty_76),(77,ty_77),(78,ty_78),(80,ty_80),(81,ty_81),(83,ty_83),(84,ty_84),(85,ty_85),(86,ty_86),(87,ty_87),(88,ty_88),(89,ty_89),(90,zyy),(91,ty_91),(92,ty_92),(93,ty_93),(94,ty_94),(95,ty_95),(96,ty_96),(97,ty_97),(98,ty_98),(99,ty_99),(100,ty_100),(101,ty_101),(102,ty_102),(103,ty_103),(104,ty_104),(105,ty_105),(106,ty_106),(107,ty_107),(108,ty_108),(109,ty_109),(110,ty_110),(111,ty_111),(113,ty_113),(114,ty_114),(115,ty_115),(116,ty_116),(117,ty_117),(118,ty_118),(119,ty_119),(120,ty_120),(121,ty_121),(122,ty_122),(123,ty_123),(124,ty_124),(125,ty_125),(126,ty_126),(127,ty_127),(128,ty_128),(130,ty_130),(131,ty_131),(132,ty_132),(133,ty_133),(134,ty_134),(135,ty_135),(136,ty_136),(137,ty_137),(138,ty_138),(139,ty_139),(140,ty_140),(141,ty_141),(142,ty_142),(143,ty_143),(144,ty_144),(145,ty_145),(146,ty_146),(147,ty_147),(149,ty_149),(150,ty_150),(151,ty_151),(152,ty_152),(153,ty_153),(154,ty_154),(155,ty_155),(156,ty_156),(157,ty_157),(158,ty_158),(160,ty_160),(161,ty_161),(162,ty_162),(163,ty_163),(164,ty_164),(165,ty_165),(166,ty_166),(167,ty_167),(168,ty_168),(169,ty_169),(170,ty_170),(171,ty_171),(172,ty_172),(174,ty_174),(175,ty_175),(176,ty_176),(177,ty_177),(178,ty_178),(179,ty_179),(180,ty_180),(181,ty_181),(182,ty_182),(183,ty_183),(184,ty_184),(185,ty_185),(186,ty_186),(188,ty_188),(189,ty_189),(190,ty_190),(192,ty_192),(193,ty_193),(194,ty_194),(195,ty_195),(196,ty_196),(197,ty_197),(198,ty_198),(199,ty_199),(200,ty_200),(201,ty_201),(202,ty_202),(203,ty_203),(204,ty_204),(205,ty_205),(207,ty_207),(208,ty_208),(209,ty_209),(210,zuv),(212,ty_212),(213,ty_213),(214,ty_214),(215,ty_215),(216,ty_216),(217,ty_217),(218,ty_218),(219,ty_219),(220,ty_220),(221,ty_221),(222,ty_222),(223,ty_223),(224,ty_224),(225,ty_225),(226,ty_226),(227,ty_227),(228,ty_228),(229,ty_229),(230,ty_230),(231,ty_231),(232,ty_232),(233,ty_233),(234,ty_234),(235,ty_235),(236,ty_236),(237,ty_237),(239,ty_239),(240,ty_240),(241,ty_241),(242,ty_242),(243,ty_243),(244,ty_244),(245,ty_245),(246,ty_246),(247,ty_247),(248,ty_248),(249,ty_249),(250,ty_250),(251,ty_251),(252,ty_252),(253,ty_253),(254,ty_254),(255,ty_255),(256,ty_256),(257,ty_257),(258,ty_258),(259,ty_259),(261,ty_261),(262,ty_262),(263,ty_263),(264,ty_264),(265,ty_265),(266,ty_266),(267,ty_267),(268,ty_268),(269,ty_269),(270,ty_270),(271,ty_271),(272,ty_272),(273,ty_273),(274,ty_274),(275,ty_275),(276,ty_276),(277,ty_277),(278,ty_278),(279,ty_279),(280,ty_280),(281,ty_281),(282,ty_282),(283,ty_283),(284,ty_284),(285,ty_285),(286,ty_286),(287,ty_287),(288,ty_288),(289,ty_289),(290,ty_290),(291,ty_291),(292,ty_292),(293,ty_293),(294,ty_294),(295,ty_295),(296,ty_296),(297,ty_297),(298,ty_298),(299,ty_299),(300,ty_300),(301,ty_301),(302,ty_302),(303,ty_303),(304,ty_304),(305,ty_305),(306,ty_306),(307,ty_307),(308,ty_308),(309,ty_309),(310,ty_310),(311,ty_311),(312,ty_312),(313,ty_313),(314,ty_314),(315,ty_315),(316,ty_316),(317,ty_317),(318,ty_318),(319,ty_319),(320,ty_320),(321,ty_321),(322,ty_322),(323,ty_323),(324,ty_324),(325,ty_325),(326,ty_326),(327,ty_327),(328,ty_328),(329,ty_329),(330,ty_330),(334,ty_334),(335,ty_335),(336,ty_336),(337,ty_337),(338,ty_338),(339,ty_339),(340,ty_340),(341,ty_341),(342,ty_342)]
def TT:Nat→Option Ty:=zqp tabL
theorem tok:TOK Tryz.prog TT:=tok_tab (by kernel_rfl)
theorem ysu:Tryz.prog.follows .mixedOrders=true:=by kernel_rfl
end
section
open Go.RowKit
variable {N:Nat} {ops:Array Oper} {lf:Oper→Bool} {Q:SS→Prop} {t:List (Nat × AV)} {h:List (Nat × Option LObj)} {rest:List Oper} {d:Nat} {op:Op} {ty:TypeId} {pos:String} {af:Array Edge} {gd:Option (Nat × Bool)} {r:AV}
theorem zI {z:Int} (k:Lex Tryz.prog N ops lf Q rest (S ((d,.v (.int .i64 z))::t) h)) (hr:ypw TT t h op ty=some (.v (.int .i64 (IntKind.i64.wrap z))):=by rfl) (h0:-9223372036854775808≤z∧z≤9223372036854775807:=by constructor <;> omega) (hw:yah ops (look t) ⟨some d,op,ty,pos,af,gd⟩=some true:=by rfl) (hd:Nat.blt d N=true:=by rfl):Lex Tryz.prog N ops lf Q (⟨some d,op,ty,pos,af,gd⟩::rest) (S t h):=L_int tok hr h0 hw hd k
theorem zL {ti e es eb sz z:Nat} {ea ag:Bool} {ez z0:List Value} {x:Operand} {α:Type} {f:α→List AV} {l:List α} (k:Lex Tryz.prog N ops lf Q rest (S ((d,.v (.int .i64 l.length))::t) h)) (hk:TT ti=some ⟨.slc e es ea eb ez,sz,ag,z0⟩:=by rfl) (hx:evF (look t) x=some (.sl z (l.map f)):=by rfl) (hw:yah ops (look t) ⟨some d,.call { callee:=.builtin .len,args:=#[x],argTypes:=#[ti] },ty,pos,af,gd⟩=some true:=by rfl) (hd:Nat.blt d N=true:=by rfl):Lex Tryz.prog N ops lf Q (⟨some d,.call { callee:=.builtin .len,args:=#[x],argTypes:=#[ti] },ty,pos,af,gd⟩::rest) (S t h):=L_lenMap tok hk hx hw hd k
theorem zC  (k:Lex Tryz.prog N ops lf Q rest (S ((d,r)::t) h)) (hr:ypw TT t h op ty=some r:=by rfl) (hw:yah ops (look t) ⟨some d,op,ty,pos,af,gd⟩=some true:=by rfl) (hd:Nat.blt d N=true:=by rfl):Lex Tryz.prog N ops lf Q (⟨some d,op,ty,pos,af,gd⟩::rest) (S t h):=zfv tok hr hw hd k
theorem zK (k:Lex Tryz.prog N ops lf Q rest (S ((d,.v undef)::t) h)) (hw:yah ops (look t) ⟨some d,op,ty,pos,af,gd⟩=some false:=by rfl) (hd:Nat.blt d N=true:=by rfl):Lex Tryz.prog N ops lf Q (⟨some d,op,ty,pos,af,gd⟩::rest) (S t h):=zvz hw hd k
theorem zB {elem:TypeId} {x:Operand} {y:AV} {cs:List AV} (k:Lex Tryz.prog N ops lf Q rest (S ((d,.lp d 0)::t) ((d,some (.cells cs))::h))) (hx:evF (look t) x=some y:=by rfl) (hcs:ydk y=some cs:=by rfl) (h1:ydd d t=true:=by rfl) (h2:ybr d h=true:=by rfl) (hm:ment.mentL d cs=false:=by rfl) (hl:lf ⟨some d,.box elem x,ty,pos,af,gd⟩=true:=by rfl) (hw:yah ops (look t) ⟨some d,.box elem x,ty,pos,af,gd⟩=some true:=by rfl) (hd:Nat.blt d N=true:=by rfl):Lex Tryz.prog N ops lf Q (⟨some d,.box elem x,ty,pos,af,gd⟩::rest) (S t h):=zzs hx hcs h1 h2 hm hl hw hd k
theorem zA {elem:TypeId} {y:Ty} (k:Lex Tryz.prog N ops lf Q rest (S ((d,.lp d 0)::t) ((d,some (.cells (ygr y.zero)))::h))) (hy:TT elem=some y:=by rfl) (hone:y.zero.all Value.oneCell'=true:=by rfl) (h1:ydd d t=true:=by rfl) (h2:ybr d h=true:=by rfl) (hl:lf ⟨some d,.alloc elem,ty,pos,af,gd⟩=true:=by rfl) (hw:yah ops (look t) ⟨some d,.alloc elem,ty,pos,af,gd⟩=some true:=by rfl) (hd:Nat.blt d N=true:=by rfl):Lex Tryz.prog N ops lf Q (⟨some d,.alloc elem,ty,pos,af,gd⟩::rest) (S t h):=zdl tok hy hone h1 h2 hl hw hd k
theorem zS {ti:Nat} {y:Ty} {x v:Operand} {id off:Nat} {xs cs ys:List AV} {u:AV} (k:Lex Tryz.prog N ops lf Q rest (S t ((id,some (.cells ys))::h))) (hy:TT ti=some y:=by rfl) (hx:evF (look t) x=some (.lp id off):=by rfl) (hv:evF (look t) v=some u:=by rfl) (hcs:ydk u=some cs:=by rfl) (hcl:Nat.beq cs.length y.size=true:=by rfl) (hh:hlook h id=some (.cells xs):=by rfl) (hsp:yhq off cs xs=some ys:=by rfl) (hl:lf ⟨none,.store ti x v,ty,pos,af,gd⟩=true:=by rfl) (hw:yah ops (look t) ⟨none,.store ti x v,ty,pos,af,gd⟩=some true:=by rfl):Lex Tryz.prog N ops lf Q (⟨none,.store ti x v,ty,pos,af,gd⟩::rest) (S t h):=L_store tok hy hx hv hcs hcl hh hsp hl hw k
theorem zU {ti:Nat} {y:Ty} {parts:List (Nat × Operand)} {ps:List (Nat × AV)} (k:Lex Tryz.prog N ops lf Q rest (S ((d,r)::t) h)) (hy:TT ti=some y:=by rfl) (hone:y.zero.all Value.oneCell'=true:=by rfl) (hps:evP (evF (look t)) parts=some ps:=by rfl) (hr:zgl TT ti ps=some r:=by rfl) (hw:yah ops (look t) ⟨some d,.build ti parts.toArray,ty,pos,af,gd⟩=some true:=by rfl) (hd:Nat.blt d N=true:=by rfl):Lex Tryz.prog N ops lf Q (⟨some d,.build ti parts.toArray,ty,pos,af,gd⟩::rest) (S t h):=L_build tok hy hone hps hr hw hd k
theorem zV {ti e es eb sz len:Nat} {ea ag:Bool} {ez z:List Value} {parts:List (Nat × Operand)} {ps:List (Nat × AV)} {ys:List AV} {rows:List (List AV)} (k:Lex Tryz.prog N ops lf Q rest (S ((d,.sl es rows)::t) h)) (hk:TT ti=some ⟨.slc e es ea eb ez,sz,ag,z⟩:=by rfl) (hone:ez.all Value.oneCell'=true:=by rfl) (hps:evP (evF (look t)) parts=some ps:=by rfl) (hf:ywg (fun i=>some (i * es,es)) (yke len (ygr ez)) ps=some ys:=by rfl) (hpu:yap.pureL ys=true:=by rfl) (hch:ynt es len ys=some rows:=by rfl) (hlim:Nat.ble (len * es) 16777216=true:=by rfl) (hw:yah ops (look t) ⟨some d,.buildSlice ti len parts.toArray,ty,pos,af,gd⟩=some true:=by rfl) (hd:Nat.blt d N=true:=by rfl):Lex Tryz.prog N ops lf Q (⟨some d,.buildSlice ti len parts.toArray,ty,pos,af,gd⟩::rest) (S t h):=L_buildSlice tok hk hone hps hf hpu hch hlim hw hd k
theorem zF {f:Nat} {caps:List Operand} {xs:List AV} (k:Lex Tryz.prog N ops lf Q rest (S ((d,.fn f xs)::t) h)) (hx:evL (evF (look t)) caps=some xs:=by rfl) (hw:yah ops (look t) ⟨some d,.makeFunc (.func f) #[] caps.toArray,ty,pos,af,gd⟩=some true:=by rfl) (hd:Nat.blt d N=true:=by rfl):Lex Tryz.prog N ops lf Q (⟨some d,.makeFunc (.func f) #[] caps.toArray,ty,pos,af,gd⟩::rest) (S t h):=L_makeFunc hx hw hd k
theorem zX {ti e es eb sz:Nat} {ea ag:Bool} {ez z:List Value} {x y:Operand} {ki:IntKind} {i:Int} {rows:List (List AV)} {row:List AV} (k:Lex Tryz.prog N ops lf Q rest (S ((d,.dp row 0)::t) h)) (hk:TT ti=some ⟨.slc e es ea eb ez,sz,ag,z⟩:=by rfl) (hx:evF (look t) x=some (.sl es rows):=by rfl) (hy:evF (look t) y=some (.v (.int ki i)):=by rfl) (h0:0≤i:=by omega) (hrow:rows[i.toNat]?=some row:=by first|exact row_map (by assumption)|exact row_mapI (by assumption)) (hw:yah ops (look t) ⟨some d,.indexAddr ti x y,ty,pos,af,gd⟩=some true:=by rfl) (hd:Nat.blt d N=true:=by rfl):Lex Tryz.prog N ops lf Q (⟨some d,.indexAddr ti x y,ty,pos,af,gd⟩::rest) (S t h):=ynn tok hk hx hy h0 hrow hw hd k
theorem zR {Q:Exit→SS→Prop} {s:SS} {id:Nat} {l:List Oper} (k:Lex Tryz.prog N l.toArray lfT (Q .normal) l s) (hn:ygg l=true:=by rfl):A Tryz.prog N (.region id l.toArray false) Q s:=ycs (lf:=lfT) hn k
theorem zD {Q:Exit→SS→Prop} {s:SS} {id:Nat} {l:List Oper} (k:Lex Tryz.prog N l.toArray lf0 (Q .normal) l s) (hB:zmo lf0 l=true:=by kernel_rfl) (hD:yqg N l=true:=by rfl):A Tryz.prog N (.region id l.toArray true) Q s:=ypy (lf:=lf0) ysu hB hD k
theorem zT {Q:Exit→SS→Prop} {s:SS} {c:Operand} {x y:Code} (k:A Tryz.prog N x Q s) (hc:evF s.t c=some (.v (.bool true)):=by rfl):A Tryz.prog N (.cond c x y) Q s:=yac hc (fun _=>k) (fun e=>by cases e)
theorem zE {Q:Exit→SS→Prop} {s:SS} {c:Operand} {x y:Code} (k:A Tryz.prog N y Q s) (hc:evF s.t c=some (.v (.bool false)):=by rfl):A Tryz.prog N (.cond c x y) Q s:=yac hc (fun e=>by cases e) (fun _=>k)
theorem ykc {P:Program} {ty:TypeId} {h:Nat→Option LObj} {ρ:Operand→Option AV} {x:Operand} {row:List AV} {off:Nat} (hx:ρ x=some (.dp row off)):ybu P h ρ (.nilCheck x) ty (.dp row off):=
 yar fun B ok0 lv w a o ho hty hi hops=>by
  have hr:=hops x _ (by simp [Op.operands]) hx
  obtain ⟨g,q,hv,_⟩:=ymk hr
  exact ⟨a.eval x,by simp [execOp,ho,hv],hr⟩
theorem zN {x:Operand} {row:List AV} {off:Nat} (k:Lex Tryz.prog N ops lf Q rest (S ((d,.dp row off)::t) h)) (hx:evF (look t) x=some (.dp row off):=by rfl) (hw:yah ops (look t) ⟨some d,.nilCheck x,ty,pos,af,gd⟩=some true:=by rfl) (hd:Nat.blt d N=true:=by rfl):Lex Tryz.prog N ops lf Q (⟨some d,.nilCheck x,ty,pos,af,gd⟩::rest) (S t h):=yby (ykc hx) hw hd k
structure Zk (q:Prop):Prop where
 out:q
theorem zy {p q:Prop} (k:q) (h:Zk q→p:=by intro hq;(first|refine zI ?_|refine zL ?_|refine zC ?_|refine ycu ?_|refine yco ?_|refine zR ?_|refine zD ?_|refine zK ?_|refine zB ?_|refine zA ?_|refine zS ?_|refine zU ?_|refine zV ?_|refine zF ?_|with_reducible refine yat ?_|with_reducible refine ybg ?_|refine ybh ?_|refine ybf ?_|refine ybp ?_|refine zT ?_|refine zE ?_|refine zX ?_|refine L_nilCheck rfl rfl rfl rfl ?_|refine zN ?_);(repeat (first|refine zI ?_|refine zL ?_|refine zC ?_|refine ycu ?_|refine yco ?_|refine zR ?_|refine zD ?_|refine zK ?_|refine zB ?_|refine zA ?_|refine zS ?_|refine zU ?_|refine zV ?_|refine zF ?_|with_reducible refine yat ?_|with_reducible refine ybg ?_|refine ybh ?_|refine ybf ?_|refine ybp ?_|refine zT ?_|refine zE ?_|refine zX ?_|refine L_nilCheck rfl rfl rfl rfl ?_|refine zN ?_));exact hq.out):p:=h ⟨k⟩
theorem zw {p q:Prop} (k:q) (h:Zk q→p:=by intro hq;(first|refine zI ?_|refine zL ?_|refine zC ?_|refine ycu ?_|refine yco ?_|refine zR ?_|refine zK ?_|refine zB ?_|refine zA ?_|refine zS ?_|refine zU ?_|refine zV ?_|refine zF ?_|with_reducible refine yat ?_|with_reducible refine ybg ?_|refine ybh ?_|refine ybf ?_|refine ybp ?_|refine zT ?_|refine zE ?_|refine zX ?_|refine L_nilCheck rfl rfl rfl rfl ?_|refine zN ?_);(repeat (first|refine zI ?_|refine zL ?_|refine zC ?_|refine ycu ?_|refine yco ?_|refine zR ?_|refine zK ?_|refine zB ?_|refine zA ?_|refine zS ?_|refine zU ?_|refine zV ?_|refine zF ?_|with_reducible refine yat ?_|with_reducible refine ybg ?_|refine ybh ?_|refine ybf ?_|refine ybp ?_|refine zT ?_|refine zE ?_|refine zX ?_|refine L_nilCheck rfl rfl rfl rfl ?_|refine zN ?_));exact hq.out):p:=h ⟨k⟩
theorem zo {p q:Prop} (k:q) (h:Zk q→p:=by intro hq;(first|refine zI ?_|refine zL ?_|refine zC ?_|refine zK ?_|refine zB ?_|refine zA ?_|refine zS ?_|refine zU ?_|refine zV ?_|refine zF ?_|refine zX ?_|refine ycu ?_|refine L_nilCheck rfl rfl rfl rfl ?_|refine zN ?_);(repeat (first|refine zI ?_|refine zL ?_|refine zC ?_|refine zK ?_|refine zB ?_|refine zA ?_|refine zS ?_|refine zU ?_|refine zV ?_|refine zF ?_|refine zX ?_|refine ycu ?_|refine L_nilCheck rfl rfl rfl rfl ?_|refine zN ?_));exact hq.out):p:=h ⟨k⟩
theorem zt {p q:Prop} (k:q) (h:Zk q→p:=by intro hq;(repeat (first|with_reducible refine ybg ?_|with_reducible refine yat ?_|refine ybf ?_|refine yco ?_|refine ybh ?_));exact hq.out):p:=h ⟨k⟩
theorem zs {t t':List (Nat × AV)} (h:ywl t t':=by (repeat (first|exact subT_nil|refine ycr rfl ?_))):ywl t t':=h
theorem zh {t t':List (Nat × Option LObj)} (h:yrf t t':=by first|exact yae|exact yab rfl yae|exact yab rfl (yab rfl yae)|exact yab rfl (yab rfl (yab rfl yae))|exact yab rfl (yab rfl (yab rfl (yab rfl yae)))):yrf t t':=h
end
section
open Go.RowKit Go.Maps
def zjz (P:Program) (N:Nat) (c:Code) (Q:Exit→SS→Prop) (s:SS):Prop:=
 ∀ (B:Bse) (ok0:Nat→Prop) (lv:Live) (a:Act) (w:World),Sim B ok0 N s lv a w→∀ (b:Frame) (k:List Item) (cs:List Frame),b.roundOf=(FW B.rd).round→(FW B.rd).fn b.fn→(FW B.rd).room (cs.length+1+0) →
  ∃ e a' w',(∃ s' lv',Q e s'∧Sim B ok0 N s' lv' a' w')∧ArrivesIn (Machine.fenced P (FW B.rd)) P (lone (b.atR a (.code c::.inLoop c::k)) cs w) b k cs e a' w'
def RndL (P:Program) (N:Nat) (c:Code) (Q:Exit→SS→Prop):Exit→SS→Prop
 | .normal,s=>zjz P N c Q s
 | e,s=>Q e s
theorem zqx {P:Program} {N:Nat} {c:Code} {Q:Exit→SS→Prop} {s:SS} (h:zjz P N c Q s):A P N (.loop c) Q s:=by
 intro B ok0 lv a w hs b k cs hro hfn hroom
 obtain ⟨e,a',w',hq,harr⟩:=h B ok0 lv a w hs b k cs hro hfn hroom
 exact ⟨e,a',w',hq,.of_steps (.one (fenced_calm hfn hroom rfl) stepR_loop) harr⟩
theorem yoq {P:Program} {N:Nat} {c:Code} {Q:Exit→SS→Prop} {s:SS} (h:A P N c (RndL P N c Q) s):zjz P N c Q s:=by
 intro B ok0 lv a w hs b k cs hro hfn hroom
 obtain ⟨e,a₁,w₁,⟨s₁,lv₁,hq,hs₁⟩,harr⟩:=h B ok0 lv a w hs b (.inLoop c::k) cs hro hfn hroom
 cases e with
 | normal=>
  obtain ⟨e₂,a₂,w₂,hq₂,harr₂⟩:=hq B ok0 lv₁ a₁ w₁ hs₁ b k cs hro hfn hroom
  exact ⟨e₂,a₂,w₂,hq₂,.of_steps (StepsIn.trans harr (.one (fenced_calm hfn hroom rfl) stepR_inLoop)) harr₂⟩
 | exit id=>exact ⟨_,a₁,w₁,⟨s₁,lv₁,hq,hs₁⟩,.pass (x:=.inLoop c) rfl (fun _ _=>.inl (by simp)) harr⟩
 | goto l=>exact ⟨_,a₁,w₁,⟨s₁,lv₁,hq,hs₁⟩,.pass (x:=.inLoop c) rfl (fun _ _=>.inl (by simp)) harr⟩
 | ret=>exact ⟨_,a₁,w₁,⟨s₁,lv₁,hq,hs₁⟩,.pass (x:=.inLoop c) rfl (fun _ _=>.inl (by simp)) harr⟩
 | panic ch=>exact ⟨_,a₁,w₁,⟨s₁,lv₁,hq,hs₁⟩,.pass (x:=.inLoop c) rfl (fun _ _=>.inl (by simp)) harr⟩
 | outgrown=>exact ⟨_,a₁,w₁,⟨s₁,lv₁,hq,hs₁⟩,.pass (x:=.inLoop c) rfl (fun _ _=>.inl (by simp)) harr⟩
theorem yxr {P:Program} {N:Nat} {c:Code} {Q:Exit→SS→Prop} {t t':List (Nat × AV)} {h h':List (Nat × Option LObj)} (k:zjz P N c Q (S t' h')) (h1:ywl t t') (h2:yrf h h'):zjz P N c Q (S t h):=by
 intro B ok0 lv a w hs b kk cs hro hfn hroom
 obtain ⟨lv',hs'⟩:=hs.weak (s':=S t' h') ⟨ybv h1,yag h2⟩
 exact k B ok0 lv' a w hs' b kk cs hro hfn hroom
section
variable {P:Program} {T:Nat→Option Ty} {N:Nat} {ops:Array Oper} {lf:Oper→Bool} {Q:SS→Prop} {t:List (Nat × AV)} {h:List (Nat × Option LObj)} {rest:List Oper} {d:Nat} {op:Op} {ty:TypeId} {pos:String} {af:Array Edge} {gd:Option (Nat × Bool)} {r:AV}
theorem yiu (hT:TOK P T) {ti n es sz:Nat} {ea ag:Bool} {z:List Value} {x y:Operand} {k:IntKind} {i:Int} {id off:Nat} {xs:List AV} (hk:T ti=some ⟨.arr n es ea,sz,ag,z⟩) (hx:evF (look t) x=some (.lp id off)) (hh:ycl (hlook h id)=some xs) (hne:xs≠[]) (hy:evF (look t) y=some (.v (.int k i))) (h0:0≤i) (h1:i < n)
  (hw:yah ops (look t) ⟨some d,.indexAddr ti x y,ty,pos,af,gd⟩=some true) (hd:Nat.blt d N=true) (k:Lex P N ops lf Q rest (S ((d,.lp id (off+i.toNat * es))::t) h)):Lex P N ops lf Q (⟨some d,.indexAddr ti x y,ty,pos,af,gd⟩::rest) (S t h):=
 yby (ymg (hT _ _ hk).2.2 hx hh (.inl hne) hy h0 h1) hw hd k
theorem zjt {c:Code} {Q:Exit→SS→Prop} (id:Nat) {xs:List AV} (ys:List AV) (hx:hlook h id=some (.cells xs)) (he:xs=ys) (hp:∀ y∈ys,yap y=true) (k:A P N c Q (S t ((id,some (.vec ys))::h))):A P N c Q (S t h):=by
 subst he
 intro B ok0 lv a w hs
 refine k B ok0 lv a w ⟨⟨hs.inv.base,hs.inv.ok0lt,fun j hj=>?_,hs.inv.inj,fun j x hj=>?_⟩,hs.size,hs.frame,hs.defers,hs.big,fun j b ws hN hj hc hb=>?_⟩
 ·refine hs.inv.dom j ?_
  simp only [S,hlook] at hj ⊢
  split at hj
  ·cases hj
  ·exact hj
 ·simp only [S,hlook] at hj
  split at hj
  ·rename_i hb
   cases hj
   have e:=Nat.eq_of_beq_eq_true hb
   subst e
   obtain ⟨b,n,h1,h2⟩:=hs.inv.obj j _ hx
   refine ⟨b,n,h1,?_⟩
   cases b with
   | none=>simp [yfb] at h2
   | some b=>exact ⟨h2.1,h2.2.1,h2.2.2,hp⟩
  ·exact hs.inv.obj j x hj
 ·simp only [S,hlook] at hj
  split at hj
  ·cases hj;cases hc
  ·exact hs.pin j b ws hN hj hc hb
theorem yzx {w:World} {b:Nat} {o:Obj} (hb:b < w.heap.size):(ChangeMaps.setBlock w b o).heap[b]?=some o:=by
 simp [ChangeMaps.setBlock,hb]
theorem yqm {w:World} {b g:Nat} {o:Obj} (hg:g≠b):(ChangeMaps.setBlock w b o).heap[g]?=w.heap[g]?:=by
 simp [ChangeMaps.setBlock,Ne.symm hg]
theorem makeMap_loud {o:Oper} {ti:Nat} {s:SS} (ho:o.op=.makeMap ti none) (hd:o.dst=some d) (hdN:d < N) (id:Nat) (hf:ymi s id):ycc P N o s (·=⟨yes s.t (some d) (.mp id),yei s.h id (some (.map []))⟩):=by
 intro B ok0 lv a w hs Q
 have hrun:(execOp a.eval o).run P w=.ok (.value (.map (some w.heap.size))) (w.alloc (.map #[] 0)):=by
  simp [execOp,ho,run_makeMap]
 unfold Oper.wp
 rw [hrun]
 have hnew:=hs.newBlock (ob:=.map []) (n:=0) hf (ydo w (.map #[] 0)) (by simp) rfl (fun h=>by cases h) (fun ok' lv' g1 g2=>⟨#[],0,ydl w _,by simp,by simp,by simp⟩)
 simp only [Oper.upon,hd]
 exact ⟨_,_,rfl,hnew.putOnly hdN (.mp _ rfl fun b n hb=>by simp only [yih,if_true,Option.some.injEq,Prod.mk.injEq] at hb;rw [hb.1])⟩
theorem yxq {ti:Nat} (h1:ydd d t=true) (h2:ybr d h=true) (hl:lf ⟨some d,.makeMap ti none,ty,pos,af,gd⟩=true) (hw:yah ops (look t) ⟨some d,.makeMap ti none,ty,pos,af,gd⟩=some true) (hd:Nat.blt d N=true)
  (k:Lex P N ops lf Q rest (S ((d,.mp d)::t) ((d,some (.map []))::h))):Lex P N ops lf Q (⟨some d,.makeMap ti none,ty,pos,af,gd⟩::rest) (S t h):=
 ydi hl hw (by rw [← yqt];exact makeMap_loud rfl rfl (by simpa using hd) d (yhw h1 h2)) k
inductive Found (z:Value) (es:List (Value × Value)) (key:Value):Value→Bool→Prop
 | hit {v:Value} (h1:∃ e∈es,e.1=key) (h2:∀ e∈es,e.1=key→e.2=v):Found z es key v true
 | miss (h:∀ e∈es,e.1≠key):Found z es key z false
theorem zcg {w:World} {b ti kt et:Nat} {es:List (Value × Value)} {key z v:Value} {kl:Lit} {okb cm:Bool} (hm:zxu w b es) (ht:P.underlying ti=some (.map kt et)) (K:Keyed P kt) (hks:∀ e∈es,∃ l,keyOf P kt e.1=some l) (hkey:keyOf P kt key=some kl) (hz:(zeroValue et).run P w=.ok z w) (hf:Found z es key v okb) :
  (Instr.lookup ti (.map (some b)) key cm).run P w=.ok (if cm then .tuple #[v,.bool okb] else v) w:=by
 obtain ⟨en,clock,h1,h2,h3,h4⟩:=hm
 have hks':∀ e∈en.toList,∃ l,keyOf P kt e.key=some l:=fun e he=>hks (e.key,e.val) (by rw [← h2];exact List.mem_map_of_mem (f:=fun e:MapEntry=>(e.key,e.val)) he)
 have hc:=K.check w en.isEmpty hkey
 have hfind:=K.find w hkey en.toList hks'
 have main:∀ (o:Option (Nat × Value)),(Instr.findKey kt key en.toList).run P w=.ok o w→((match o with|some (_,x)=>(x,true)|none=>(z,false))=(v,okb))→(Instr.lookup ti (.map (some b)) key cm).run P w=.ok (if cm then .tuple #[v,.bool okb] else v) w:=by
  intro o ho he
  have hg:(getObj b).run P w=.ok (.map en clock) w:=by simp [getObj,Sem.run,h1]
  simp only [Instr.lookup,Sem.run_bind,run_underlying ht,Result.andThen_ok,hg,Sem.run_pure,hc,ho]
  cases o with
  | none=>simp only [Prod.mk.injEq] at he;obtain ⟨rfl,rfl⟩:=he;simp only [Sem.run_bind,hz,Result.andThen_ok,Sem.run_pure]
  | some p=>simp only [Prod.mk.injEq] at he;obtain ⟨rfl,rfl⟩:=he;simp
 rcases hfind with ⟨g1,g2⟩|⟨j,e,g1,g2,g3⟩
 ·refine main none g1 ?_
  cases hf with
  | hit q1 q2=>
   obtain ⟨p,hp,hpk⟩:=q1
   rw [← h2] at hp
   obtain ⟨e,he,rfl⟩:=List.mem_map.1 hp
   exact absurd hpk (g2 e he)
  | miss q=>rfl
 ·refine main (some (j,e.val)) g1 ?_
  have hmem:(e.key,e.val)∈es:=by rw [← h2];exact List.mem_map_of_mem (f:=fun e:MapEntry=>(e.key,e.val)) (List.mem_of_getElem? g2)
  cases hf with
  | hit q1 q2=>rw [← q2 _ hmem g3]
  | miss q=>exact absurd g3 (q _ hmem)
def zsz (cm:Bool) (v:Value) (okb:Bool):AV:=if cm then .tup [.v v,.v (.bool okb)] else .v v
theorem zhq {ok:Nat→Prop} {w:World} {lv:Live} (cm:Bool) (v:Value) (okb:Bool):Rel ok w lv (zsz cm v okb) (if cm then .tuple #[v,.bool okb] else v):=by
 cases cm
 ·exact .v v
 ·refine .tup [v,.bool okb] rfl fun i c u hc hu=>?_
  match i with
  | 0=>simp at hc hu;subst hc hu;exact .v _
  | 1=>simp at hc hu;subst hc hu;exact .v _
  | i+2=>simp at hc
theorem yield_lookup_mp {ρ:Operand→Option AV} {hp:Nat→Option LObj} {ti kt et id:Nat} {x y:Operand} {yv:AV} {es:List (Value × Value)} {key z v:Value} {kl:Lit} {okb cm:Bool} (ht:P.underlying ti=some (.map kt et)) (K:Keyed P kt) (hx:ρ x=some (.mp id)) (hid:hp id=some (.map es)) (hy:ρ y=some yv) (hyk:toV yv=some key)
  (hks:∀ e∈es,∃ l,keyOf P kt e.1=some l) (hkey:keyOf P kt key=some kl) (hz:∀ w,(zeroValue et).run P w=.ok z w) (hf:Found z es key v okb):ybu P hp ρ (.lookup ti x y cm) ty (zsz cm v okb):=
 yar fun B ok0 lv w a o ho hty hi hops=>by
  have hr:=hops x _ (by simp [Op.operands]) hx
  have hk:=yuy hyk (hops y _ (by simp [Op.operands]) hy)
  obtain ⟨b,n,hb,hown⟩:=hi.obj id _ hid
  generalize hv:a.eval x=u at hr
  cases hr with
  | mp _ _ hmp=>
   cases b with
   | none=>simp [yfb] at hown
   | some b=>
    obtain rfl:=hmp b n hb
    refine ⟨_,?_,zhq cm v okb⟩
    simp [execOp,ho,hv,hk,zcg (cm:=cm) hown.2.2 ht K hks hkey (hz w) hf]
theorem yield_lookup_mv {ρ:Operand→Option AV} {hp:Nat→Option LObj} {ti kt et:Nat} {x y:Operand} {yv:AV} {es:List (Value × Value)} {key z v:Value} {kl:Lit} {okb cm:Bool} (ht:P.underlying ti=some (.map kt et)) (K:Keyed P kt) (hx:ρ x=some (.mv es)) (hy:ρ y=some yv) (hyk:toV yv=some key)
  (hks:∀ e∈es,∃ l,keyOf P kt e.1=some l) (hkey:keyOf P kt key=some kl) (hz:∀ w,(zeroValue et).run P w=.ok z w) (hf:Found z es key v okb):ybu P hp ρ (.lookup ti x y cm) ty (zsz cm v okb):=
 yar fun B ok0 lv w a o ho hty hi hops=>by
  have hr:=hops x _ (by simp [Op.operands]) hx
  have hk:=yuy hyk (hops y _ (by simp [Op.operands]) hy)
  generalize hv:a.eval x=u at hr
  cases hr with
  | mv b hg hm=>
   refine ⟨_,?_,zhq cm v okb⟩
   simp [execOp,ho,hv,hk,zcg (cm:=cm) hm ht K hks hkey (hz w) hf]
theorem yhh {ti kt et id:Nat} {x y:Operand} {yv:AV} {es:List (Value × Value)} {key z v:Value} {kl:Lit} {okb cm:Bool} (ht:P.underlying ti=some (.map kt et)) (K:Keyed P kt) (hx:evF (look t) x=some (.mp id)) (hid:hlook h id=some (.map es)) (hy:evF (look t) y=some yv) (hyk:toV yv=some key)
  (hks:∀ e∈es,∃ l,keyOf P kt e.1=some l) (hkey:keyOf P kt key=some kl) (hz:∀ w,(zeroValue et).run P w=.ok z w) (hf:Found z es key v okb) (hw:yah ops (look t) ⟨some d,.lookup ti x y cm,ty,pos,af,gd⟩=some true) (hd:Nat.blt d N=true)
  (k:Lex P N ops lf Q rest (S ((d,zsz cm v okb)::t) h)):Lex P N ops lf Q (⟨some d,.lookup ti x y cm,ty,pos,af,gd⟩::rest) (S t h):=yby (yield_lookup_mp ht K hx hid hy hyk hks hkey hz hf) hw hd k
theorem L_lookup_mv {ti kt et:Nat} {x y:Operand} {yv:AV} {es:List (Value × Value)} {key z v:Value} {kl:Lit} {okb cm:Bool} (ht:P.underlying ti=some (.map kt et)) (K:Keyed P kt) (hx:evF (look t) x=some (.mv es)) (hy:evF (look t) y=some yv) (hyk:toV yv=some key)
  (hks:∀ e∈es,∃ l,keyOf P kt e.1=some l) (hkey:keyOf P kt key=some kl) (hz:∀ w,(zeroValue et).run P w=.ok z w) (hf:Found z es key v okb) (hw:yah ops (look t) ⟨some d,.lookup ti x y cm,ty,pos,af,gd⟩=some true) (hd:Nat.blt d N=true)
  (k:Lex P N ops lf Q rest (S ((d,zsz cm v okb)::t) h)):Lex P N ops lf Q (⟨some d,.lookup ti x y cm,ty,pos,af,gd⟩::rest) (S t h):=yby (yield_lookup_mv ht K hx hy hyk hks hkey hz hf) hw hd k
theorem update_loud {o:Oper} {ti kt et id:Nat} {x y v:Operand} {yv vv:AV} {es:List (Value × Value)} {key val:Value} {kl:Lit} {s:SS} (ho:o.op=.mapUpdate ti x y v) (hd:o.dst=none) (ht:P.underlying ti=some (.map kt et)) (K:Keyed P kt) (hx:evF s.t x=some (.mp id)) (hid:s.h id=some (.map es)) (hy:evF s.t y=some yv) (hyk:toV yv=some key) (hvv:evF s.t v=some vv) (hvk:toV vv=some val)
  (hks:∀ e∈es,∃ l,keyOf P kt e.1=some l) (hkey:keyOf P kt key=some kl) (hnew:∀ e∈es,e.1≠key):ycc P N o s (·=⟨s.t,yei s.h id (some (.map (es++[(key,val)])))⟩):=by
 intro B ok0 lv a w hs Q
 have hk:=yuy hyk (hs.eval hy)
 have hvl:=yuy hvk (hs.eval hvv)
 have hr:=hs.eval hx
 obtain ⟨b,n,hb,hown⟩:=hs.inv.obj id _ hid
 generalize hv:a.eval x=u at hr
 cases hr with
 | mp _ _ hmp=>
  cases b with
  | none=>simp [yfb] at hown
  | some b=>
   obtain rfl:=hmp b n hb
   obtain ⟨hb1,hb2,en,clock,h1,h2,h3,h4⟩:=hown
   have hks':∀ e∈en.toList,∃ l,keyOf P kt e.key=some l:=fun e he=>hks (e.key,e.val) (by rw [← h2];exact List.mem_map_of_mem (f:=fun e:MapEntry=>(e.key,e.val)) he)
   have hfind:(Instr.findKey kt key en.toList).run P w=.ok none w:=by
    rcases K.find w hkey en.toList hks' with ⟨g1,_⟩|⟨j,e,_,g2,g3⟩
    ·exact g1
    ·exact absurd g3 (hnew (e.key,e.val) (by rw [← h2];exact List.mem_map_of_mem (f:=fun e:MapEntry=>(e.key,e.val)) (List.mem_of_getElem? g2)))
   have hg:(getObj b).run P w=.ok (.map en clock) w:=by simp [getObj,Sem.run,h1]
   have hrun:(execOp a.eval o).run P w=.ok .skip (ChangeMaps.setBlock w b (.map (en.push { key,val,born:=clock }) (clock+1))):=by
    have hset:(setObj b (.map (en.push { key,val,born:=clock }) (clock+1))).run P w=.ok () (ChangeMaps.setBlock w b (.map (en.push { key,val,born:=clock }) (clock+1))):=by simp [setObj,Sem.run,h1,ChangeMaps.setBlock]
    simp only [execOp,ho,hv,hk,hvl,Instr.mapUpdate,Sem.run_bind,run_underlying ht,Result.andThen_ok,hg,K.check w false hkey,hfind,hset,Sem.run_pure]
   unfold Oper.wp
   rw [hrun]
   simp only [Oper.upon,hd,Act.put]
   refine ⟨_,lv,rfl,hs.write (w':=ChangeMaps.setBlock w b (.map (en.push { key,val,born:=clock }) (clock+1))) hb rfl rfl rfl (by simp [ChangeMaps.setBlock]) (fun g hg=>yqm hg) (fun h=>by cases h) fun ok' hk=>?_⟩
   refine ⟨_,_,yzx hb2,by simp [← h2],?_,fun e he=>?_⟩
   ·rw [Array.toList_push,List.map_append,List.nodup_append]
    refine ⟨h3,by simp,fun x hx y hy=>?_⟩
    obtain ⟨e,he,rfl⟩:=List.mem_map.1 hx
    simp at hy
    subst hy
    have:=h4 e he
    omega
   ·simp only [Array.toList_push,List.mem_append,List.mem_singleton] at he
    rcases he with he|rfl
    ·have:=h4 e he;omega
    ·simp
theorem yqr {ti kt et id:Nat} {x y v:Operand} {yv vv:AV} {es:List (Value × Value)} {key val:Value} {kl:Lit} (ht:P.underlying ti=some (.map kt et)) (K:Keyed P kt) (hx:evF (look t) x=some (.mp id)) (hid:hlook h id=some (.map es)) (hy:evF (look t) y=some yv) (hyk:toV yv=some key) (hvv:evF (look t) v=some vv) (hvk:toV vv=some val)
  (hks:∀ e∈es,∃ l,keyOf P kt e.1=some l) (hkey:keyOf P kt key=some kl) (hnew:∀ e∈es,e.1≠key) (hl:lf ⟨none,.mapUpdate ti x y v,ty,pos,af,gd⟩=true) (hw:yah ops (look t) ⟨none,.mapUpdate ti x y v,ty,pos,af,gd⟩=some true)
  (k:Lex P N ops lf Q rest (S t ((id,some (.map (es++[(key,val)])))::h))):Lex P N ops lf Q (⟨none,.mapUpdate ti x y v,ty,pos,af,gd⟩::rest) (S t h):=
 ydi hl hw (by rw [← S_h];exact update_loud rfl rfl ht K hx hid hy hyk hvv hvk hks hkey hnew) k
theorem Sim.freezeMap {B:Bse} {ok0:Nat→Prop} {s:SS} {lv:Live} {a:Act} {w:World} (hs:Sim B ok0 N s lv a w) {d id:Nat} {es:List (Value × Value)} (hd:s.t d=some (.mp id)) (hx:s.h id=some (.map es))
  {s':SS} (ht:∀ x y,s'.t x=some y→y=.any∨s.t x=some y) (hlt:∀ x y,s'.t x=some y→∃ z,s.t x=some z) (hid:s'.h id=none) (hh:∀ j ob',s'.h j=some ob'→∃ ob,s.h j=some ob∧ylb ob ob'):∃ lv',Sim B ok0 N ⟨yes s'.t (some d) (.mv es),s'.h⟩ lv' a w:=by
 obtain ⟨lv',h1,h2,h3,h4⟩:=hs.forg ht hlt hh
 refine ⟨lv',h1.inv,h1.size,fun x y hy=>?_,h1.defers,h1.big,h1.pin⟩
 simp only [yes] at hy
 split at hy
 ·rename_i e
  subst e
  simp only [Option.some.injEq] at hy
  subst hy
  have hf:=hs.frame x _ hd
  refine ⟨hf.1,?_⟩
  have hr:=hf.2
  obtain ⟨b,n,hb,hown⟩:=hs.inv.obj id _ hx
  generalize yct B a x=u at hr
  cases hr with
  | mp _ _ hmp=>
   cases b with
   | none=>simp [yfb] at hown
   | some b=>
    obtain rfl:=hmp b n hb
    refine .mv b ⟨.inr hown.1,hown.2.1,fun j b' m hj he=>?_⟩ hown.2.2
    subst he
    have:=hs.inv.inj j id b' m n (h2 j _ m hj) hb
    subst this
    rw [h1.inv.dom j hid] at hj
    cases hj
 ·exact h1.frame x y hy
theorem A_freezeMap {c:Code} {Q:Exit→SS→Prop} {t':List (Nat × AV)} {h':List (Nat × Option LObj)} (d:Nat) {id:Nat} {es:List (Value × Value)} (hd:look t d=some (.mp id)) (hx:hlook h id=some (.map es)) (ht:ysd id t=some t') (hh:ypv id h=some h') (k:A P N c Q (S ((d,.mv es)::t') ((id,none)::h'))):A P N c Q (S t h):=by
 intro B ok0 lv a w hs
 obtain ⟨g1,g2⟩:=ygk ht
 obtain ⟨lv',hs'⟩:=hs.freezeMap (s':=S t' ((id,none)::h')) hd hx (fun x y hy=>(g1 x y hy).imp (fun h=>h) And.left) g2 (by simp [S,hlook]) (fun j ob' hj=>by
  simp only [S,hlook] at hj
  split at hj
  ·cases hj
  ·exact (yfl hh j ob' hj).2)
 rw [show (⟨yes (S t' ((id,none)::h')).t (some d) (.mv es),(S t' ((id,none)::h')).h⟩:SS)=S ((d,.mv es)::t') ((id,none)::h') by unfold S;rw [yde]] at hs'
 exact k B ok0 lv' a w hs'
theorem range_loud {o:Oper} {ti kt et:Nat} {x:Operand} {es:List (Value × Value)} {s:SS} (ho:o.op=.range ti x) (hd:o.dst=some d) (hdN:d < N) (id:Nat) (ht:P.underlying ti=some (.map kt et)) (hx:evF s.t x=some (.mv es)) (hf:ymi s id):ycc P N o s (·=⟨yes s.t (some d) (.lp id 0),yei s.h id (some (.iter es es none))⟩):=by
 intro B ok0 lv a w hs Q
 have hr:=hs.eval hx
 generalize hv:a.eval x=u at hr
 cases hr with
 | mv b hg hm=>
  obtain ⟨en,clock,h1,h2,h3,h4⟩:=hm
  have hgo:(getObj b).run P w=.ok (.map en clock) w:=by simp [getObj,Sem.run,h1]
  have hrun:(execOp a.eval o).run P w=.ok (.value (.pointer (some ⟨w.heap.size,0,none⟩))) (w.alloc (.mapIter (some b) clock #[] clock)):=by
   simp [execOp,ho,hv,Instr.range,run_underlying ht,hgo]
  unfold Oper.wp
  rw [hrun]
  have hnew:=hs.newBlock (ob:=.iter es es none) (n:=0) hf (ydo w (.mapIter (some b) clock #[] clock)) (by simp) rfl (fun h=>by cases h) (fun ok' lv' g1 g2=>by
   have hgb:=g1 b hg
   refine ⟨b,en,clock,#[],clock,hgb.1,by rw [hgb.2];exact h1,h2,h3,h4,ydl w _,Nat.le_refl _,?_,fun p hp=>by cases hp⟩
   have:(en.toList.filter fun e=>!(#[]:Array Nat).contains e.born)=en.toList:=by simp
   rw [this,h2])
  simp only [Oper.upon,hd]
  exact ⟨_,_,rfl,hnew.putOnly hdN (.lp _ rfl fun b n hb=>by simp only [yih,if_true,Option.some.injEq,Prod.mk.injEq] at hb;rw [hb.1])⟩
theorem L_range {ti kt et:Nat} {x:Operand} {es:List (Value × Value)} (ht:P.underlying ti=some (.map kt et)) (hx:evF (look t) x=some (.mv es)) (h1:ydd d t=true) (h2:ybr d h=true) (hl:lf ⟨some d,.range ti x,ty,pos,af,gd⟩=true) (hw:yah ops (look t) ⟨some d,.range ti x,ty,pos,af,gd⟩=some true) (hd:Nat.blt d N=true)
  (k:Lex P N ops lf Q rest (S ((d,.lp d 0)::t) ((d,some (.iter es es none))::h))):Lex P N ops lf Q (⟨some d,.range ti x,ty,pos,af,gd⟩::rest) (S t h):=
 ydi hl hw (by rw [← yqt];exact range_loud rfl rfl (by simpa using hd) d ht hx (yhw h1 h2)) k
theorem yield_entry {ρ:Operand→Option AV} {hp:Nat→Option LObj} {x:Operand} {id:Nat} {es left:List (Value × Value)} {p:Value × Value} (hx:ρ x=some (.lp id 0)) (hid:hp id=some (.iter es left (some p))):ybu P hp ρ (.entry x) ty (.tup [.v p.1,.v p.2]):=
 yar fun B ok0 lv w a o ho hty hi hops=>by
  have hr:=hops x _ (by simp [Op.operands]) hx
  generalize hv:a.eval x=u at hr
  obtain ⟨r,n,hb,hown⟩:=hi.obj id _ hid
  cases hr with
  | lp _ _ hlp=>
   cases r with
   | none=>simp [yfb] at hown
   | some r=>
    obtain rfl:=hlp r n hb
    obtain ⟨_,_,b,en,clock,seen,st,h2,h3,h4,h5,h6,h7,h8,h9,h10⟩:=hown
    obtain ⟨e,seen',g1,g2,g3,g4⟩:=h10 p rfl
    subst g2 g3 g4
    have hrun:=run_entry_at (P:=P) w r b st seen' en st e h7 h3 g1 h5
    refine ⟨.tuple #[e.key,e.val],by simp [execOp,ho,hv,hrun],?_⟩
    refine .tup [e.key,e.val] rfl fun i c u hc hu=>?_
    match i with
    | 0=>simp at hc hu;subst hc hu;exact .v _
    | 1=>simp at hc hu;subst hc hu;exact .v _
    | i+2=>simp at hc
theorem L_entry {x:Operand} {id:Nat} {es left:List (Value × Value)} {p:Value × Value} (hx:evF (look t) x=some (.lp id 0)) (hid:hlook h id=some (.iter es left (some p))) (hw:yah ops (look t) ⟨some d,.entry x,ty,pos,af,gd⟩=some true) (hd:Nat.blt d N=true)
  (k:Lex P N ops lf Q rest (S ((d,.tup [.v p.1,.v p.2])::t) h)):Lex P N ops lf Q (⟨some d,.entry x,ty,pos,af,gd⟩::rest) (S t h):=yby (yield_entry hx hid) hw hd k
theorem left_step {en:List MapEntry} {e:MapEntry} {seen:Array Nat} (hn:(en.map (·.born)).Nodup) (he:e∈en.filter fun e=>!seen.contains e.born) :
  List.Perm (en.filter fun e=>!seen.contains e.born) (e::en.filter fun x=>!(seen.push e.born).contains x.born):=by
 have hf:(en.filter fun x=>!(seen.push e.born).contains x.born)=(en.filter fun e=>!seen.contains e.born).filter fun x=>x.born != e.born:=by
  rw [List.filter_filter]
  apply List.filter_congr
  intro x hx
  rw [Bool.eq_iff_iff]
  simp
  constructor
  ·rintro ⟨h1,h2⟩;exact ⟨h2,h1⟩
  ·rintro ⟨h1,h2⟩;exact ⟨h2,h1⟩
 rw [hf]
 have hn':((en.filter fun e=>!seen.contains e.born).map (·.born)).Nodup:=hn.sublist ((List.filter_sublist).map _)
 generalize en.filter (fun e=>!seen.contains e.born)=l at he hn'
 induction l with
 | nil=>cases he
 | cons y l ih=>
  simp only [List.map_cons,List.nodup_cons] at hn'
  rcases List.mem_cons.1 he with rfl|he'
  ·have:(e::l).filter (fun x=>x.born != e.born)=l:=by
    simp only [List.filter_cons,bne_self_eq_false,Bool.false_eq_true,if_false]
    rw [List.filter_eq_self]
    intro x hx
    simp only [bne_iff_ne,ne_eq]
    intro hb
    exact hn'.1 (by rw [← hb];exact List.mem_map_of_mem (f:=(·.born)) hx)
   rw [this]
  ·have hne:(y.born != e.born)=true:=by
    simp only [bne_iff_ne,ne_eq]
    intro hb
    exact hn'.1 (by rw [hb];exact List.mem_map_of_mem (f:=(·.born)) he')
   simp only [List.filter_cons,hne,if_true]
   exact ((ih he' hn'.2).cons y).trans (List.Perm.swap e y _)
theorem next_loud {o:Oper} {x:Operand} {id:Nat} {es left:List (Value × Value)} {cur:Option (Value × Value)} {s:SS} (ho:o.op=.next x false) (hd:o.dst=some d) (hdN:d < N) (hx:evF s.t x=some (.lp id 0)) (hid:s.h id=some (.iter es left cur)) :
  ycc P N o s (fun s'=>(left=[]∧s'=⟨yes s.t (some d) (.tup [.v (.bool false)]),s.h⟩)∨∃ p left',List.Perm left (p::left')∧s'=⟨yes s.t (some d) (.tup [.v (.bool true),.v p.1,.v p.2]),yei s.h id (some (.iter es left' (some p)))⟩):=by
 intro B ok0 lv a w hs Q
 have hr:=hs.eval hx
 generalize hv:a.eval x=u at hr
 obtain ⟨r,n,hb,hown⟩:=hs.inv.obj id _ hid
 cases hr with
 | lp _ _ hlp=>
  cases r with
  | none=>simp [yfb] at hown
  | some r=>
   obtain rfl:=hlp r n hb
   obtain ⟨hr1,hr2,b,en,clock,seen,st,h2,h3,h4,h5,h6,h7,h8,h9,h10⟩:=hown
   have hlo:(leftOf en seen).toList=en.toList.filter fun e=>!seen.contains e.born:=by simp [leftOf]
   unfold Oper.wp
   rcases run_next_at (P:=P) w o.type r b clock st seen en clock h7 h3 h6 h8 with ⟨g1,g2⟩|⟨e,g1,w1,g2,g3⟩
   ·have hleft:left=[]:=by
     have hz:(en.toList.filter fun e=>!seen.contains e.born)=[]:=by
      rw [← hlo]
      exact List.eq_nil_of_length_eq_zero (by simpa using g1)
     rw [hz] at h9
     exact h9.eq_nil
    have hrun:(execOp a.eval o).run P w=.ok (.value (.tuple #[.bool false])) w:=by
     simp only [execOp,ho,hv,Sem.run_bind,g2,Result.andThen_ok,Sem.run_pure]
    rw [hrun]
    simp only [Oper.upon,hd]
    refine ⟨_,lv,.inl ⟨hleft,rfl⟩,hs.putOnly hdN (.tup [.bool false] rfl fun i c u hc hu=>?_)⟩
    match i with
    | 0=>simp at hc hu;subst hc hu;exact .v _
    | i+1=>simp at hc
   ·have hrun:(execOp a.eval o).run P w=.ok (.value (.tuple #[.bool true,e.key,e.val])) (ChangeMaps.setBlock w1 r (.mapIter (some b) clock (seen.push e.born) clock)):=by
     simp only [execOp,ho,hv,Sem.run_bind,g3,Result.andThen_ok,Sem.run_pure]
    have hw1:w1.heap=w.heap∧w1.os=w.os∧w1.tape=w.tape∧w1.output=w.output:=by rcases g2 with rfl|rfl <;> exact ⟨rfl,rfl,rfl,rfl⟩
    generalize hw2:ChangeMaps.setBlock w1 r (.mapIter (some b) clock (seen.push e.born) clock)=w2 at hrun
    have hrlt:r < w1.heap.size:=by rw [hw1.1];exact hr2
    have hoth:∀ g,g≠r→w2.heap[g]?=w.heap[g]?:=fun g hg=>by rw [← hw2,yqm hg,hw1.1]
    have hat:w2.heap[r]?=some (.mapIter (some b) clock (seen.push e.born) clock):=by rw [← hw2];exact yzx hrlt
    have hel:e∈en.toList.filter fun e=>!seen.contains e.born:=by rw [← hlo];exact g1
    have hperm:List.Perm left ((e.key,e.val)::(en.toList.filter fun x=>!(seen.push e.born).contains x.born).map fun e=>(e.key,e.val)):=h9.trans ((left_step h5 hel).map fun e=>(e.key,e.val))
    rw [hrun]
    simp only [Oper.upon,hd]
    have hbr:b≠r:=fun hbr=>h2.2.2 id r n hb hbr.symm
    have hwr:=hs.write (w':=w2) hb (by rw [← hw2];exact hw1.2.1) (by rw [← hw2];exact hw1.2.2.1) (by rw [← hw2];exact hw1.2.2.2) (by rw [← hw2];simp [ChangeMaps.setBlock,hw1.1]) hoth
     (ob:=.iter es ((en.toList.filter fun x=>!(seen.push e.born).contains x.born).map fun e=>(e.key,e.val)) (some (e.key,e.val))) (fun h=>by cases h) (fun ok' hk=>⟨b,en,clock,seen.push e.born,clock,(hk b h2).1,by rw [hoth b hbr];exact h3,h4,h5,h6,hat,Nat.le_refl _,List.Perm.refl _,fun p hp=>by
      cases hp
      exact ⟨e,seen,(List.mem_filter.1 hel).1,rfl,rfl,rfl⟩⟩)
    refine ⟨_,lv,.inr ⟨(e.key,e.val),_,hperm,rfl⟩,hwr.putOnly hdN (.tup [.bool true,e.key,e.val] rfl fun i c u hc hu=>?_)⟩
    match i with
    | 0=>simp at hc hu;subst hc hu;exact .v _
    | 1=>simp at hc hu;subst hc hu;exact .v _
    | 2=>simp at hc hu;subst hc hu;exact .v _
    | i+3=>simp at hc
theorem L_next {x:Operand} {id:Nat} {es left:List (Value × Value)} {cur:Option (Value × Value)} (hx:evF (look t) x=some (.lp id 0)) (hid:hlook h id=some (.iter es left cur)) (hl:lf ⟨some d,.next x false,ty,pos,af,gd⟩=true) (hw:yah ops (look t) ⟨some d,.next x false,ty,pos,af,gd⟩=some true) (hd:Nat.blt d N=true)
  (k1:left=[]→Lex P N ops lf Q rest (S ((d,.tup [.v (.bool false)])::t) h)) (k2:∀ p left',List.Perm left (p::left')→Lex P N ops lf Q rest (S ((d,.tup [.v (.bool true),.v p.1,.v p.2])::t) ((id,some (.iter es left' (some p)))::h))) :
  Lex P N ops lf Q (⟨some d,.next x false,ty,pos,af,gd⟩::rest) (S t h):=by
 refine .loud _ hl hw (next_loud rfl rfl (by simpa using hd) hx hid) ?_
 rintro s' (⟨h1,rfl⟩|⟨p,left',h1,rfl⟩)
 ·have:(⟨yes (S t h).t (some d) (.tup [.v (.bool false)]),(S t h).h⟩:SS)=S ((d,.tup [.v (.bool false)])::t) h:=by unfold S;rw [yde]
  rw [this];exact k1 h1
 ·have:(⟨yes (S t h).t (some d) (.tup [.v (.bool true),.v p.1,.v p.2]),yei (S t h).h id (some (.iter es left' (some p)))⟩:SS)=S ((d,.tup [.v (.bool true),.v p.1,.v p.2])::t) ((id,some (.iter es left' (some p)))::h):=yqt
  rw [this];exact k2 p left' h1
end
end
section
open Go.RowKit
structure Wk (a b:AV):Prop where
 cell:ydt a=true→ydt b=true
 rel:∀ (ok:Nat→Prop) (w:World) (lv:Live) (v:Value),Rel ok w lv a v→Rel ok w lv b v
theorem yfu (a:AV):Wk a a:=⟨fun h=>h,fun _ _ _ _ h=>h⟩
inductive WkL:List AV→List AV→Prop
 | nil:WkL [] []
 | cons {a b:AV} {l m:List AV} (h:Wk a b) (t:WkL l m):WkL (a::l) (b::m)
inductive WkR:List (List AV)→List (List AV)→Prop
 | nil:WkR [] []
 | cons {a b:List AV} {l m:List (List AV)} (h:WkL a b) (t:WkR l m):WkR (a::l) (b::m)
theorem WkL.spec {l m:List AV} (h:WkL l m):l.length=m.length∧∀ (j:Nat) (c':AV),m[j]?=some c'→∃ c,l[j]?=some c∧Wk c c':=by
 induction h with
 | nil=>exact ⟨rfl,fun j c' h=>by simp at h⟩
 | cons h t ih=>
  refine ⟨by simp [ih.1],fun j c' hj=>?_⟩
  cases j with
  | zero=>simp at hj;subst hj;exact ⟨_,rfl,h⟩
  | succ j=>simp at hj;simpa using ih.2 j c' hj
theorem WkR.spec {l m:List (List AV)} (h:WkR l m):l.length=m.length∧∀ (j:Nat) (c':List AV),m[j]?=some c'→∃ c,l[j]?=some c∧WkL c c':=by
 induction h with
 | nil=>exact ⟨rfl,fun j c' h=>by simp at h⟩
 | cons h t ih=>
  refine ⟨by simp [ih.1],fun j c' hj=>?_⟩
  cases j with
  | zero=>simp at hj;subst hj;exact ⟨_,rfl,h⟩
  | succ j=>simp at hj;simpa using ih.2 j c' hj
theorem Con.weak {P:Program} {f:FuncId} {args args':List AV} {r:AV} (h:WkL args args') (hc:Con P f args' r):Con P f args r:=by
 obtain ⟨h1,h2,h3⟩:=hc
 obtain ⟨g1,g2⟩:=h.spec
 refine ⟨h1,h2,fun ok0 w us hG hok hr=>h3 ok0 w us hG hok ⟨hr.1.trans g1,fun i x u hx hu=>?_⟩⟩
 obtain ⟨c,k1,k2⟩:=g2 i x hx
 exact k2.rel _ _ _ _ (hr.2 i c u k1 hu)
theorem yvi {P:Program} {f:FuncId} {args:List AV} {x:Value} (hc:Con P f args (.v x)) {w:World} (hG:ywf w) {us:List Value} {ok:Nat→Prop} (hok:∀ g,ok g→g < w.heap.size) (h:ybk ok w (fun _=>none) args us):Calls P f us.toArray w fun e w'=>e=.returned x∧Below w.heap.size w w':=
 (hc.2.2 ok w us hG hok h).mono fun e w' ⟨u,h1,h2,h3⟩=>by cases h2;exact ⟨h1,h3⟩
section
variable {P:Program} {T:Nat→Option Ty} {N:Nat} {ops:Array Oper} {lf:Oper→Bool} {Q:SS→Prop} {t:List (Nat × AV)} {h:List (Nat × Option LObj)} {rest:List Oper} {d:Nat} {op:Op} {ty:TypeId} {pos:String} {af:Array Edge} {gd:Option (Nat × Bool)} {r:AV}
theorem L_rem {x y:Operand} {a b:Int} {tx ty':TypeId} (hx:evF (look t) x=some (i64 a)) (hy:evF (look t) y=some (i64 b)) (hb:b≠0)
  (hw:yah ops (look t) ⟨some d,.binOp .rem tx x y ty',ty,pos,af,gd⟩=some true) (hd:Nat.blt d N=true) (k:Lex P N ops lf Q rest (S ((d,i64 (a.tmod b))::t) h)):Lex P N ops lf Q (⟨some d,.binOp .rem tx x y ty',ty,pos,af,gd⟩::rest) (S t h):=
 yby (yield_rem hx hy hb) hw hd k
theorem L_quo {x y:Operand} {a b:Int} {tx ty':TypeId} (hx:evF (look t) x=some (i64 a)) (hy:evF (look t) y=some (i64 b)) (hb:b≠0) (hlo:-9223372036854775808≤a.tdiv b) (hhi:a.tdiv b≤9223372036854775807)
  (hw:yah ops (look t) ⟨some d,.binOp .quo tx x y ty',ty,pos,af,gd⟩=some true) (hd:Nat.blt d N=true) (k:Lex P N ops lf Q rest (S ((d,i64 (a.tdiv b))::t) h)):Lex P N ops lf Q (⟨some d,.binOp .quo tx x y ty',ty,pos,af,gd⟩::rest) (S t h):=by
 have e:=yield_quo (P:=P) (hp:=hlook h) (ty:=ty) (tx:=tx) (ty':=ty') hx hy hb
 rw [IntWalk.i64_in _ ⟨hlo,hhi⟩] at e
 exact yby e hw hd k
theorem yield_neqB {ρ:Operand→Option AV} {hp:Nat→Option LObj} {x y:Operand} {a b:Bool} {tx ty':TypeId} (hu:P.underlying tx=some .bool) (hx:ρ x=some (.v (.bool a))) (hy:ρ y=some (.v (.bool b))):ybu P hp ρ (.binOp .neq tx x y ty') ty (ybq (!(a == b))):=
 ycj (fun _ _=>by simp) (by simp [yfz,Op.operands,hx,hy,toV]) fun w=>by simp [execOp,ydq hx,ydq hy,eqGuard,binOp,run_equal_bool w tx a b hu]
theorem zrf (hT:TOK P T) {x y:Operand} {a b:Bool} {tx ty':TypeId} {s:Nat} {ag:Bool} {z:List Value} (hk:T tx=some ⟨.bool,s,ag,z⟩) (hx:evF (look t) x=some (.v (.bool a))) (hy:evF (look t) y=some (.v (.bool b)))
  (hw:yah ops (look t) ⟨some d,.binOp .neq tx x y ty',ty,pos,af,gd⟩=some true) (hd:Nat.blt d N=true) (k:Lex P N ops lf Q rest (S ((d,ybq (!(a == b)))::t) h)):Lex P N ops lf Q (⟨some d,.binOp .neq tx x y ty',ty,pos,af,gd⟩::rest) (S t h):=
 yby (yield_neqB (hT _ _ hk).2.2 hx hy) hw hd k
end
end
section
open Go.RowKit
def yam (l:List Int):AV:=.sl 1 (l.map fun z=>[i64 z])
def yee (l:Lk):List AV:=[i64 l.1,i64 l.2]
def yin (l:List Lk):AV:=.sl 2 (l.map yee)
def ybj (l:List (List Lk)):AV:=.sl 1 (l.map fun x=>[yin x])
def ypu (g:GraphD):AV:=.agg [yam g.ids,ybj g.ports]
def ykd (c:List (List Int)):AV:=.sl 1 (c.map fun x=>[yam x])
def okW (w:World) (g:Nat):Prop:=g < w.heap.size
theorem ztw {ok:Nat→Prop} {w:World} {lv:Live} {a:AV} {cs:List Value} (h:ybk ok w lv [a] cs):∃ u,cs=[u]∧Rel ok w lv a u:=by
 match cs,h with
 | [u],h=>exact ⟨u,rfl,h.2 0 _ _ rfl rfl⟩
theorem yrb {ok:Nat→Prop} {w:World} {lv:Live} {a b:AV} {cs:List Value} (h:ybk ok w lv [a,b] cs):∃ u v,cs=[u,v]∧Rel ok w lv a u∧Rel ok w lv b v:=by
 match cs,h with
 | [u,v],h=>exact ⟨u,v,rfl,h.2 0 _ _ rfl rfl,h.2 1 _ _ rfl rfl⟩
theorem zlf {ok:Nat→Prop} {w:World} {lv:Live} {a b c:AV} {cs:List Value} (h:ybk ok w lv [a,b,c] cs):∃ u v x,cs=[u,v,x]∧Rel ok w lv a u∧Rel ok w lv b v∧Rel ok w lv c x:=by
 match cs,h with
 | [u,v,x],h=>exact ⟨u,v,x,rfl,h.2 0 _ _ rfl rfl,h.2 1 _ _ rfl rfl,h.2 2 _ _ rfl rfl⟩
theorem ygj {P:Program} {f:FuncId} {args:List AV} {x:Value} (hb:yjf P f) (h:∀ (w:World) (us:List Value) (ok:Nat→Prop),(∀ g,ok g→g < w.heap.size)→ybk ok w (fun _=>none) args us→Calls P f us.toArray w fun e w'=>e=.returned x∧Below w.heap.size w w'):Con P f args (.v x):=
 ⟨hb,rfl,fun ok0 w us _ hok hr=>(h w us ok0 hok hr).mono fun e w' ⟨h1,h2⟩=>⟨x,h1,.v x,h2⟩⟩
end
set_option maxHeartbeats 8000000
section
open Go.RowKit
theorem yer (b:Bool):Con Tryz.prog 252 [ybq b] (i64 (yto b)):=by
 refine yao Tryz.func252 rfl rfl Tryz.ntmps252 Tryz.results252 rfl rfl ?_
 cases b
 ·(try refine zy ?_);refine yaf ?_;refine ⟨_,rfl,?_⟩;exact Frz.pure
 ·(try refine zy ?_);refine yaf ?_;refine ⟨_,rfl,?_⟩;exact Frz.pure
theorem ypb (a:Int):Con Tryz.prog 254 [i64 a] (i64 (zll a)):=by
 refine yao Tryz.func254 rfl rfl Tryz.ntmps254 Tryz.results254 rfl rfl ?_
 (try refine zy ?_)
 refine yaf ?_;refine ⟨_,rfl,?_⟩
 exact yai (by unfold zll ygp;split <;> split <;> omega)
theorem zwx {a b:Int} (ha:InV a) (hb:b≠0):-1073741824≤a.tdiv b∧a.tdiv b≤1073741824:=by
 have:=Int.natAbs_tdiv_le_natAbs a b
 unfold InV ygp at ha
 omega
theorem ztr {a b:Int} (ha:InV a):-1073741825≤zof a b∧zof a b≤1073741824:=by
 by_cases hb:b=0
 ·subst hb;simp [zof]
 ·have:=zwx ha hb
  rw [← zwy hb]
  split <;> omega
theorem xcg (p q:Bool):(p != q)=!(p == q):=rfl
theorem zmx (a b:Int) (ha:InV a):Con Tryz.prog 255 [i64 a,i64 b] (i64 (zof a b)):=by
 refine yao Tryz.func255 rfl rfl Tryz.ntmps255 Tryz.results255 rfl rfl ?_
 (try refine zy ?_)
 refine yac rfl (fun h=>?_) (fun h=>?_)
 ·simp at h
  subst h
  (try refine zy ?_)
  refine yaf ?_;refine ⟨_,rfl,?_⟩
  exact yai (by simp [zof])
 simp at h
 have h1:=zwx ha h
 have hq:=zwy (a:=a) h
 (try refine zy ?_)
 refine L_quo rfl rfl h (by omega) (by omega) rfl rfl ?_
 (repeat (first|refine zy ?_|refine L_rem rfl rfl h rfl rfl ?_))
 refine yax 15 rfl (fun h2=>?_) (fun h2=>?_)
 ·(repeat (first|refine zy ?_|refine zrf tok rfl rfl rfl rfl rfl ?_))
  refine yac rfl (fun h3=>?_) (fun h3=>?_)
  ·(try refine zy ?_)
   refine yaf ?_;refine ⟨_,rfl,?_⟩
   exact yai (by rw [← hq,if_pos ⟨by simpa using h2,by rw [xcg];exact h3⟩])
  ·(try refine zy ?_)
   refine yaf ?_;refine ⟨_,rfl,?_⟩
   exact yai (by rw [← hq,if_neg (fun e=>by rw [xcg] at e;rw [e.2] at h3;cases h3)])
 ·(try refine zy ?_)
  refine yaf ?_;refine ⟨_,rfl,?_⟩
  exact yai (by rw [← hq,if_neg (fun e=>e.1 (by simpa using h2))])
theorem eun_con (op a:Int) (ha:InV a):Con Tryz.prog 226 [i64 op,i64 a] (i64 (unV op a)):=by
 unfold InV ygp at ha
 refine yao Tryz.func226 rfl rfl Tryz.ntmps226 Tryz.results226 rfl rfl ?_
 (try refine zy ?_)
 refine yac rfl (fun h=>?_) (fun h=>?_)
 ·simp at h
  (try refine zy ?_)
  refine yaf ?_;refine ⟨_,rfl,?_⟩
  exact yai (by simp [unV,h])
 ·simp at h
  (repeat (first|refine zy ?_|refine yad rfl rfl (yer _) rfl rfl ?_))
  refine yaf ?_;refine ⟨_,rfl,?_⟩
  exact yai (by simp [unV,h])
theorem ecmp_con (op a b:Int):Con Tryz.prog 256 [i64 op,i64 a,i64 b] (ybq (if op=35 then a == b else if op=36 then a != b else if op=37 then decide (a < b) else if op=38 then decide (a≤b) else if op=39 then decide (b < a) else decide (b≤a))):=by
 refine yao Tryz.func256 rfl rfl Tryz.ntmps256 Tryz.results256 rfl rfl ?_
 (try refine zy ?_)
 refine yac rfl (fun h1=>?_) (fun h1=>?_)
 ·simp at h1;(try refine zy ?_);refine yaf ?_;refine ⟨_,rfl,?_⟩;exact yan (by simp [h1])
 simp at h1;(try refine zy ?_)
 refine yac rfl (fun h2=>?_) (fun h2=>?_)
 ·simp at h2;(try refine zy ?_);refine yaf ?_;refine ⟨_,rfl,?_⟩;exact yan (by rw [if_neg h1,if_pos h2])
 simp at h2;(try refine zy ?_)
 refine yac rfl (fun h3=>?_) (fun h3=>?_)
 ·simp at h3;(try refine zy ?_);refine yaf ?_;refine ⟨_,rfl,?_⟩;exact yan (by simp [h3])
 simp at h3;(try refine zy ?_)
 refine yac rfl (fun h4=>?_) (fun h4=>?_)
 ·simp at h4;(try refine zy ?_);refine yaf ?_;refine ⟨_,rfl,?_⟩;exact yan (by simp [h4])
 simp at h4;(try refine zy ?_)
 refine yac rfl (fun h5=>?_) (fun h5=>?_)
 ·simp at h5;(try refine zy ?_);refine yaf ?_;refine ⟨_,rfl,?_⟩;exact yan (by simp [h5])
 simp at h5;(try refine zy ?_)
 refine yaf ?_;refine ⟨_,rfl,?_⟩
 exact yan (by simp [h1,h2,h3,h4,h5])
end
section
open Go.RowKit
theorem ztj {a b m n:Int} (h1:-m≤a) (h2:a≤m) (h3:-n≤b) (h4:b≤n):-(m * n)≤a * b∧a * b≤m * n:=by
 have k1:a.natAbs≤m.natAbs:=by omega
 have k2:b.natAbs≤n.natAbs:=by omega
 have k3:=Nat.mul_le_mul k1 k2
 rw [← Int.natAbs_mul,← Int.natAbs_mul] at k3
 have k4:((m * n).natAbs:Int)=m * n:=Int.natAbs_of_nonneg (Int.mul_nonneg (by omega) (by omega))
 omega
theorem mulV_bd {a b:Int} (ha:InV a) (hb:InV b):-1152921504606846976≤a * b∧a * b≤1152921504606846976:=by
 have:=ztj ha.1 ha.2 hb.1 hb.2
 simpa [ygp] using this
theorem mulQ_bd {a b:Int} (ha:InV a) (hb:InV b):-1152921505680588800≤b * zof a b∧b * zof a b≤1152921505680588800:=by
 have hq:=ztr (b:=b) ha
 have:=ztj (a:=b) (b:=zof a b) (n:=1073741825) hb.1 hb.2 (by omega) (by omega)
 simpa [ygp] using this
theorem ebin_con (op a b:Int) (ha:InV a) (hb:InV b):Con Tryz.prog 228 [i64 op,i64 a,i64 b] (i64 (biP op a b)):=by
 have hm:=mulV_bd ha hb
 have hq:=ztr (b:=b) ha
 have hn:=mulQ_bd ha hb
 have ha':=ha
 have hb':=hb
 unfold InV ygp at ha' hb'
 refine yao Tryz.func228 rfl rfl Tryz.ntmps228 Tryz.results228 rfl rfl ?_
 (try refine zy ?_)
 refine yac rfl (fun h1=>?_) (fun h1=>?_)
 ·simp at h1;subst h1
  (repeat (first|refine zy ?_|refine yad rfl rfl (ypb _) rfl rfl ?_))
  refine yaf ?_;refine ⟨_,rfl,?_⟩;exact yai rfl
 simp at h1;(try refine zy ?_)
 refine yac rfl (fun h2=>?_) (fun h2=>?_)
 ·simp at h2;subst h2
  (repeat (first|refine zy ?_|refine yad rfl rfl (zmx a b ha) rfl rfl ?_|refine yad rfl rfl (ypb _) rfl rfl ?_))
  refine yaf ?_;refine ⟨_,rfl,?_⟩;exact yai rfl
 simp at h2;(try refine zy ?_)
 refine yac rfl (fun h3=>?_) (fun h3=>?_)
 ·simp at h3;subst h3
  (try refine zy ?_)
  refine yac rfl (fun h=>?_) (fun h=>?_)
  ·simp at h;subst h
   (try refine zy ?_)
   refine yaf ?_;refine ⟨_,rfl,?_⟩;exact yai rfl
  simp at h
  (repeat (first|refine zy ?_|refine yad rfl rfl (zmx a b ha) rfl rfl ?_|refine yad rfl rfl (ypb _) rfl rfl ?_))
  refine yaf ?_;refine ⟨_,rfl,?_⟩;exact yai (by simp [biP,h])
 simp at h3;(try refine zy ?_)
 refine yac rfl (fun h4=>?_) (fun h4=>?_)
 ·simp at h4;subst h4
  (repeat (first|refine zy ?_|refine yad rfl rfl (ypb _) rfl rfl ?_))
  refine yaf ?_;refine ⟨_,rfl,?_⟩;exact yai rfl
 simp at h4;(try refine zy ?_)
 refine yac rfl (fun h5=>?_) (fun h5=>?_)
 ·simp at h5;subst h5
  (repeat (first|refine zy ?_|refine yad rfl rfl (ypb _) rfl rfl ?_))
  refine yaf ?_;refine ⟨_,rfl,?_⟩;exact yai rfl
 simp at h5;(try refine zy ?_)
 refine yac rfl (fun h6=>?_) (fun h6=>?_)
 ·simp at h6;subst h6
  (try refine zy ?_)
  refine yax 48 rfl (fun h=>?_) (fun h=>?_)
  ·(repeat (first|refine zy ?_|refine yad rfl rfl (yer _) rfl rfl ?_))
   refine yaf ?_;refine ⟨_,rfl,?_⟩;exact yai (by rw [show biP 41 a b=yto (a != 0 && b != 0) from rfl,h];rfl)
  ·(repeat (first|refine zy ?_|refine yad rfl rfl (yer _) rfl rfl ?_))
   refine yaf ?_;refine ⟨_,rfl,?_⟩;exact yai (by rw [show biP 41 a b=yto (a != 0 && b != 0) from rfl,h];rfl)
 simp at h6;(try refine zy ?_)
 refine yac rfl (fun h7=>?_) (fun h7=>?_)
 ·simp at h7;subst h7
  (try refine zy ?_)
  refine yax 57 rfl (fun h=>?_) (fun h=>?_)
  ·(repeat (first|refine zy ?_|refine yad rfl rfl (yer _) rfl rfl ?_))
   refine yaf ?_;refine ⟨_,rfl,?_⟩;exact yai (by rw [show biP 42 a b=yto (a != 0 || b != 0) from rfl,h];rfl)
  ·(repeat (first|refine zy ?_|refine yad rfl rfl (yer _) rfl rfl ?_))
   refine yaf ?_;refine ⟨_,rfl,?_⟩;exact yai (by rw [show biP 42 a b=yto (a != 0 || b != 0) from rfl,h];rfl)
 simp at h7
 (repeat (first|refine zy ?_|refine yad rfl rfl (ecmp_con op a b) rfl rfl ?_|refine yad rfl rfl (yer _) rfl rfl ?_))
 refine yaf ?_;refine ⟨_,rfl,?_⟩
 exact yai (by simp [biP,h1,h2,h3,h4,h5,h6,h7])
end
section
open Go.RowKit
theorem zfm {α:Type} {l:List α} {k:Nat} (hk:k≤l.length) (h:¬ k < l.length):l.take k=l:=List.take_of_length_le (by omega)
theorem yue (l:List Int) (hl:l.length≤1000):Con Tryz.prog 275 [yam l] (i64 (zvh l)):=by
 refine yao Tryz.func275 rfl rfl Tryz.ntmps275 Tryz.results275 rfl rfl ?_
 (try refine zy ?_)
 refine yeu (α:=Nat) (fun k=>[(8,i64 k),(7,i64 l.length),(6,yam l),(3,i64 (zvh (l.take k)))]) (fun _=>[]) (fun k=>l.length - k) (fun k=>k≤l.length) 0 (by omega) (by exact zs) (by exact zh) ?_
 intro k hk
 have hc:=zwh (l.take k)
 rw [List.length_take] at hc
 (try refine zy ?_)
 refine yac rfl (fun h=>?_) (fun h=>?_)
 ·simp at h
  obtain ⟨a,ha⟩:=ycd h
  (try refine zy ?_)
  refine yac rfl (fun h2=>?_) (fun h2=>?_)
  ·simp at h2
   (try refine zy ?_)
   refine rnd (k+1) (by omega) (by omega) (by rw [zur ha,zrz,if_pos h2];exact zs) (by exact zh)
  ·simp at h2
   (try refine zy ?_)
   refine rnd (k+1) (by omega) (by omega) (by rw [zur ha,zrz,if_neg (by simp [h2])];exact zs) (by exact zh)
 ·simp at h
  rw [zfm hk (by omega)]
  (try refine zy ?_)
  refine yaf ?_;refine ⟨_,rfl,?_⟩
  exact Frz.pure
theorem zmy (l:List Int) (hl:l.length≤1000):Con Tryz.prog 278 [yam l] (.tup [i64 (zde l (-ygp,-ygp)).1,i64 (zde l (-ygp,-ygp)).2]):=by
 refine yao Tryz.func278 rfl rfl Tryz.ntmps278 Tryz.results278 rfl rfl ?_
 (try refine zy ?_)
 refine yeu (α:=Nat) (fun k=>[(8,i64 k),(7,i64 l.length),(6,yam l),(2,i64 (zde (l.take k) (-ygp,-ygp)).1),(3,i64 (zde (l.take k) (-ygp,-ygp)).2)]) (fun _=>[]) (fun k=>l.length - k) (fun k=>k≤l.length) 0 (by omega) (by exact zs) (by exact zh) ?_
 intro k hk
 have hle:=zxm (l.take k) (-ygp,-ygp) (Int.le_refl _)
 (try refine zy ?_)
 refine yac rfl (fun h=>?_) (fun h=>?_)
 ·simp at h
  obtain ⟨a,ha⟩:=ycd h
  have e:=zuu (l.take k) a (-ygp,-ygp)
  rw [two_step hle,← zur ha] at e
  (try refine zy ?_)
  refine yac rfl (fun h2=>?_) (fun h2=>?_)
  ·simp at h2
   rw [if_pos h2] at e
   (try refine zy ?_)
   refine rnd (k+1) (by omega) (by omega) (by rw [e];exact zs) (by exact zh)
  ·simp at h2
   rw [if_neg (by omega)] at e
   have e2:(if a > (zde (l.take k) (-ygp,-ygp)).2 then a else (zde (l.take k) (-ygp,-ygp)).2)=max (zde (l.take k) (-ygp,-ygp)).2 a:=by split <;> omega
   (try refine zy ?_)
   rw [e2]
   refine rnd (k+1) (by omega) (by omega) (by rw [e];exact zs) (by exact zh)
 ·simp at h
  rw [zfm hk (by omega)]
  (try refine zy ?_)
  refine yaf ?_;refine ⟨_,rfl,?_⟩
  exact Frz.pure
def zvj:List Int→Int→Nat→Int
 | [],_,_=>-1
 | b::l,a,k=>if a=b then k else zvj l a (k+1)
theorem zst:∀ {l:List Int} {k i:Nat} {a:Int},l[i]?=some a→(∀ j b,j < i→l[j]?=some b→a≠b)→zvj l a k=((k+i:Nat):Int)
 | b::l,k,0,a,h,_=>by
  simp only [List.getElem?_cons_zero,Option.some.injEq] at h
  subst h
  simp [zvj]
 | b::l,k,i+1,a,h,hall=>by
  have hb:=hall 0 b (by omega) rfl
  simp only [zvj,if_neg hb]
  rw [zst (l:=l) (k:=k+1) (i:=i) (by simpa using h) (fun j c hj hc=>hall (j+1) c (by omega) (by simpa using hc))]
  rw [show k+1+i=k+(i+1) by omega]
theorem zkm:∀ {l:List Int} {k:Nat} {a:Int},(∀ b∈l,a≠b)→zvj l a k=-1
 | [],k,a,_=>rfl
 | b::l,k,a,h=>by
  simp only [zvj,if_neg (h b (by simp))]
  exact zkm fun c hc=>h c (by simp [hc])
theorem notin_step {l:List Int} {k:Nat} {a b:Int} (h:∀ j c,j < k→l[j]?=some c→a≠c) (hb:l[k]?=some b) (hn:a≠b):∀ j c,j < k+1→l[j]?=some c→a≠c:=by
 intro j c hj hc
 by_cases e:j=k
 ·subst e;rw [hb] at hc;cases hc;exact hn
 ·exact h j c (by omega) hc
theorem notin_all {l:List Int} {k:Nat} {a:Int} (hk:l.length≤k) (h:∀ j c,j < k→l[j]?=some c→a≠c):∀ c∈l,a≠c:=by
 intro c hc
 obtain ⟨j,hj⟩:=List.getElem?_of_mem hc
 exact h j c (by have:=(List.getElem?_eq_some_iff.1 hj).1;omega) hj
theorem indexI_con (l:List Int) (a:Int) (hl:l.length≤1000):Con Tryz.prog 301 [yam l,i64 a] (i64 (zvj l a 0)):=by
 refine yao Tryz.func301 rfl rfl Tryz.ntmps301 Tryz.results301 rfl rfl ?_
 (try refine zy ?_)
 refine yeu (α:=Nat) (fun k=>[(8,i64 k),(7,i64 l.length),(0,yam l),(1,i64 a)]) (fun _=>[]) (fun k=>l.length - k) (fun k=>k≤l.length∧∀ j c,j < k→l[j]?=some c→a≠c) 0 ⟨by omega,fun j c hj=>absurd hj (by omega)⟩ (by exact zs) (by exact zh) ?_
 intro k ⟨hk,hn⟩
 (try refine zy ?_)
 refine yac rfl (fun h=>?_) (fun h=>?_)
 ·simp at h
  obtain ⟨b,hb⟩:=ycd h
  (try refine zy ?_)
  refine yac rfl (fun h2=>?_) (fun h2=>?_)
  ·simp at h2
   subst h2
   (try refine zy ?_)
   refine yaf ?_;refine ⟨_,rfl,?_⟩
   exact yai (by rw [zst hb hn,Nat.zero_add])
  ·simp at h2
   (try refine zy ?_)
   refine rnd (k+1) ⟨by omega,notin_step hn hb h2⟩ (by omega) (by exact zs) (by exact zh)
 ·simp at h
  (try refine zy ?_)
  refine yaf ?_;refine ⟨_,rfl,?_⟩
  exact yai (by rw [zkm (notin_all (by omega) hn)])
theorem idxI_ge (l:List Int) (a:Int) (k:Nat):decide (0≤zvj l a k)=decide (a∈l):=by
 by_cases h:a∈l
 ·rw [decide_eq_true h]
  apply decide_eq_true
  induction l generalizing k with
  | nil=>cases h
  | cons b l ih=>
   simp only [zvj]
   split
   ·omega
   ·exact ih _ ((List.mem_cons.1 h).resolve_left (by assumption))
 ·rw [zkm fun b hb e=>h (by rw [e];exact hb),decide_eq_false h]
  rfl
theorem contI_con (l:List Int) (a:Int) (hl:l.length≤1000):Con Tryz.prog 295 [yam l,i64 a] (ybq (decide (a∈l))):=by
 refine yao Tryz.func295 rfl rfl Tryz.ntmps295 Tryz.results295 rfl rfl ?_
 (repeat (first|refine zy ?_|refine yad rfl rfl (indexI_con l a hl) rfl rfl ?_))
 refine yaf ?_;refine ⟨_,rfl,?_⟩
 exact yan (idxI_ge l a 0)
theorem emex_con (l:List Int) (hl:l.length≤1000):Con Tryz.prog 279 [yam l] (i64 (zqf l (l.length+1) 0)):=by
 refine yao Tryz.func279 rfl rfl Tryz.ntmps279 Tryz.results279 rfl rfl ?_
 (try refine zy ?_)
 refine yeu (α:=Nat) (fun k=>[(0,yam l),(3,i64 k)]) (fun _=>[]) (fun k=>l.length+1 - k) (fun k=>∀ j,j < k→((j:Nat):Int)∈l) 0 (fun j hj=>absurd hj (by omega)) (by exact zs) (by exact zh) ?_
 intro k hk
 have hb:=zey k l hk
 (repeat (first|refine zy ?_|refine yad rfl rfl (contI_con l k hl) rfl rfl ?_))
 refine yac rfl (fun h=>?_) (fun h=>?_)
 ·have hm:=of_decide_eq_true h
  have hk1:∀ j,j < k+1→((j:Nat):Int)∈l:=fun j hj=>by
   by_cases e:j=k
   ·subst e;exact hm
   ·exact hk j (by omega)
  have hb1:=zey (k+1) l hk1
  (try refine zy ?_)
  refine rnd (k+1) hk1 (by omega) (by exact zs) (by exact zh)
 ·have hm:=of_decide_eq_false h
  (try refine zy ?_)
  refine yaf ?_;refine ⟨_,rfl,?_⟩
  exact yai (by rw [mex_run hk,mex_stop hm])
theorem fold1_con (a:Int):Con Tryz.prog 277 [i64 a] (ybq (a != 0)):=by
 refine yao Tryz.func277 rfl rfl Tryz.ntmps277 Tryz.results277 rfl rfl ?_
 (try refine zy ?_)
 refine yaf ?_;refine ⟨_,rfl,?_⟩
 exact Frz.pure
theorem indexF_con (l:List Int) (hl:l.length≤1000):Con Tryz.prog 276 [yam l,.fn 277 []] (i64 (znh l 0)):=by
 refine yao Tryz.func276 rfl rfl Tryz.ntmps276 Tryz.results276 rfl rfl ?_
 (try refine zy ?_)
 refine yeu (α:=Nat) (fun k=>[(8,i64 k),(7,i64 l.length),(0,yam l),(1,.fn 277 [])]) (fun _=>[]) (fun k=>l.length - k) (fun k=>k≤l.length∧∀ j b,j < k→l[j]?=some b→b=0) 0 ⟨by omega,fun j c hj=>absurd hj (by omega)⟩ (by exact zs) (by exact zh) ?_
 intro k ⟨hk,hn⟩
 (try refine zy ?_)
 refine yac rfl (fun h=>?_) (fun h=>?_)
 ·simp at h
  obtain ⟨b,hb⟩:=ycd h
  (repeat (first|refine zy ?_|refine yad rfl rfl (fold1_con b) rfl rfl ?_))
  refine yac rfl (fun h2=>?_) (fun h2=>?_)
  ·simp at h2
   (try refine zy ?_)
   refine yaf ?_;refine ⟨_,rfl,?_⟩
   exact yai (by rw [zso hb h2 hn,Nat.zero_add])
  ·simp at h2
   (try refine zy ?_)
   refine rnd (k+1) ⟨by omega,fun j c hj hc=>?_⟩ (by omega) (by exact zs) (by exact zh)
   by_cases e:j=k
   ·subst e;rw [hb] at hc;cases hc;exact h2
   ·exact hn j c (by omega) hc
 ·simp at h
  (try refine zy ?_)
  refine yaf ?_;refine ⟨_,rfl,?_⟩
  exact yai (by rw [zec fun a ha=>by
   obtain ⟨j,hj⟩:=List.getElem?_of_mem ha
   exact hn j a (by have:=(List.getElem?_eq_some_iff.1 hj).1;omega) hj])
end
section
open Go.RowKit
theorem efold_con (op:Int) (l:List Int) (hop:20≤op∧op≤29) (hl:l.length≤1000) (hin:∀ a∈l,InV a):Con Tryz.prog 253 [i64 op,yam l] (i64 (zsj op l)):=by
 refine yao Tryz.func253 rfl rfl Tryz.ntmps253 Tryz.results253 rfl rfl ?_
 have:op=20∨op=21∨op=22∨op=23∨op=24∨op=25∨op=26∨op=27∨op=28∨op=29:=by omega
 rcases this with rfl|rfl|rfl|rfl|rfl|rfl|rfl|rfl|rfl|rfl
 ·(repeat (first|refine zy ?_|refine yad rfl rfl (yue l hl) rfl rfl ?_|refine yad rfl rfl (yer _) rfl rfl ?_))
  refine yaf ?_;refine ⟨_,rfl,?_⟩
  exact yai (by show _=yto _;congr 1;rw [Bool.eq_iff_iff];simp;omega)
 ·(repeat (first|refine zy ?_|refine yad rfl rfl (yue l hl) rfl rfl ?_|refine yad rfl rfl (yer _) rfl rfl ?_))
  refine yaf ?_;refine ⟨_,rfl,?_⟩
  exact yai (by show _=yto _;congr 1;rw [Bool.eq_iff_iff];simp)
 ·(repeat (first|refine zy ?_|refine yad rfl rfl (yue l hl) rfl rfl ?_))
  refine yaf ?_;refine ⟨_,rfl,?_⟩
  exact yai rfl
 ·(repeat (first|refine zy ?_|refine yad rfl rfl (indexF_con l hl) rfl rfl ?_))
  refine yaf ?_;refine ⟨_,rfl,?_⟩
  exact yai rfl
 ·(try refine zy ?_)
  refine yeu (α:=Nat) (fun k=>[(42,i64 k),(41,i64 l.length),(40,yam l),(5,i64 (yvq (l.take k)))]) (fun _=>[]) (fun k=>l.length - k) (fun k=>k≤l.length) 0 (by omega) (by exact zs) (by exact zh) ?_
  intro k hk
  (try refine zy ?_)
  refine yac rfl (fun h=>?_) (fun h=>?_)
  ·simp at h
   obtain ⟨a,ha⟩:=ycd h
   have e2:(if a < yvq (l.take k) then a else yvq (l.take k))=yvq (l.take (k+1)):=by rw [zur ha,least_app];split <;> omega
   (try refine zy ?_)
   rw [e2]
   refine rnd (k+1) (by omega) (by omega) (by exact zs) (by exact zh)
  ·simp at h
   rw [zfm hk (by omega)]
   (try refine zy ?_)
   refine yaf ?_;refine ⟨_,rfl,?_⟩
   exact yai rfl
 ·(repeat (first|refine zy ?_|refine yad rfl rfl (zmy l hl) rfl rfl ?_))
  refine yaf ?_;refine ⟨_,rfl,?_⟩
  exact yai (by rw [zji];rfl)
 ·(try refine zy ?_)
  refine yeu (α:=Nat) (fun k=>[(63,i64 k),(62,i64 l.length),(61,yam l),(10,i64 (l.take k).sum)]) (fun _=>[]) (fun k=>l.length - k) (fun k=>k≤l.length) 0 (by omega) (by exact zs) (by exact zh) ?_
  intro k hk
  have hs:=zxi (l:=l.take k) fun a ha=>hin a (List.mem_of_mem_take ha)
  rw [List.length_take] at hs
  unfold ygp at hs
  (try refine zy ?_)
  refine yac rfl (fun h=>?_) (fun h=>?_)
  ·simp at h
   obtain ⟨a,ha⟩:=ycd h
   have hai:=hin a (List.mem_of_getElem? ha)
   unfold InV ygp at hai
   (try refine zy ?_)
   refine rnd (k+1) (by omega) (by omega) (by rw [zur ha,sum_app];exact zs) (by exact zh)
  ·simp at h
   rw [zfm hk (by omega)]
   (repeat (first|refine zy ?_|refine yad rfl rfl (ypb _) rfl rfl ?_))
   refine yaf ?_;refine ⟨_,rfl,?_⟩
   exact yai rfl
 ·(repeat (first|refine zy ?_|refine yad rfl rfl (emex_con l hl) rfl rfl ?_))
  refine yaf ?_;refine ⟨_,rfl,?_⟩
  exact yai rfl
 ·(repeat (first|refine zy ?_|refine yad rfl rfl (zmy l hl) rfl rfl ?_))
  refine yaf ?_;refine ⟨_,rfl,?_⟩
  exact yai rfl
 ·(try refine zy ?_)
  cases l with
  | nil=>
   (try refine zy ?_)
   refine yaf ?_;refine ⟨_,rfl,?_⟩
   exact yai rfl
  | cons a l=>
   (try refine zy ?_)
   refine ynn tok rfl rfl rfl (by omega) (rfl) rfl rfl ?_
   (try refine zy ?_)
   refine yaf ?_;refine ⟨_,rfl,?_⟩
   exact yai rfl
end
section
open Go.RowKit
theorem zcu {α:Type} {f:α→List AV} {R:List Value→α→Prop} {w:World} {lv:Live} {size:Nat} {l:List α} {v:Value} (h:Seq R size w v l) (hf:∀ x,(f x).length=size) (hfc:∀ x,∀ c∈f x,ydt c=true)
  (hR:∀ x∈l,∀ cs,R cs x→ybk (okW w) w (fun _=>none) (f x) cs):Rel (okW w) w lv (.sl size (l.map f)) v:=by
 obtain ⟨xs,⟨a,cap,rfl,h1,h2,h3,h4,h5⟩,h6⟩:=h
 have hget:∀ (i j:Nat) (row:List AV) (c:AV),(l.map f)[i]?=some row→row[j]?=some c→∃ x,l[i]?=some x∧row=f x∧∃ u,xs[i * size+j]?=some u∧Rel (okW w) w (fun _=>none) c u:=by
  intro i j row c hrow hc
  rw [List.getElem?_map] at hrow
  cases hx:l[i]? with
  | none=>simp [hx] at hrow
  | some x=>
   simp only [hx,Option.map_some,Option.some.injEq] at hrow
   subst hrow
   have hj:j < size:=by have:=(List.getElem?_eq_some_iff.1 hc).1;rw [hf] at this;exact this
   have hi:=(List.getElem?_eq_some_iff.1 hx).1
   have hlt:i * size+j < xs.length:=by
    have:i * size+size≤l.length * size:=by rw [← Nat.succ_mul];exact Nat.mul_le_mul_right _ hi
    omega
   refine ⟨x,rfl,rfl,xs[i * size+j],List.getElem?_eq_getElem hlt,?_⟩
   refine (hR x (List.mem_of_getElem? hx) _ (h6 i x hx)).2 j c _ hc ?_
   rw [List.getElem?_take,if_pos hj,List.getElem?_drop,List.getElem?_eq_getElem hlt]
 have hgo:∃ g o,l≠[]→a=some ⟨g,o,none⟩∧g < w.heap.size∧∀ (j:Nat) (u:Value),xs[j]?=some u→w.cell? ⟨g,o+j,none⟩=some u:=by
  rcases h5 with h5|⟨g,o,q1,q2,q3⟩
  ·exact ⟨0,0,fun h=>absurd (List.eq_nil_of_length_eq_zero h5) h⟩
  ·exact ⟨g,o,fun _=>⟨q1,q2,q3⟩⟩
 obtain ⟨g,o,hgo⟩:=hgo
 have:=Rel.sl (ok:=okW w) (w:=w) (lv:=lv) (size:=size) (rows:=l.map f) a cap (fun i j=>xs.getD (i * size+j) undef) g o (by simpa using h1) h2 h4 (fun row hr=>by obtain ⟨x,_,rfl⟩:=List.mem_map.1 hr;exact hf x)
  (fun hne=>by have:=hgo (by intro h;simp [h] at hne);exact ⟨this.1,this.2.1⟩) (fun i j row c hrow hc=>by
   obtain ⟨x,hx,rfl,u,hu,hr⟩:=hget i j row c hrow hc
   have hne:l≠[]:=by intro h;simp [h] at hx
   refine ⟨?_,hfc x c (List.mem_of_getElem? hc)⟩
   rw [Nat.add_assoc,(hgo hne).2.2 _ u hu]
   simp [hu]) (fun i j row c hrow hc=>by
   obtain ⟨x,hx,rfl,u,hu,hr⟩:=hget i j row c hrow hc
   have:xs.getD (i * size+j) undef=u:=by simp [hu]
   rw [this];exact hr)
 simpa using this
theorem flat_slice {α:Type} {g:α→List Value} {size:Nat} (hg:∀ x,(g x).length=size) {l:List α} {i:Nat} {x:α} (hx:l[i]?=some x):((l.flatMap g).drop (i * size)).take size=g x:=by
 apply List.ext_getElem?
 intro j
 rw [List.getElem?_take]
 by_cases hj:j < size
 ·rw [if_pos hj,List.getElem?_drop]
  have hu:(g x)[j]?=some ((g x)[j]'(by rw [hg];exact hj)):=List.getElem?_eq_getElem _
  rw [hu]
  exact yio g size hg l i j x _ hx hu
 ·rw [if_neg hj,List.getElem?_eq_none (by rw [hg];omega)]
theorem seq_of_row {α:Type} {g:α→List Value} {size:Nat} (hg:∀ x,(g x).length=size) {w:World} {v:Value} {l:List α} (h:Row w v size l.length (l.flatMap g)):Seq (fun cs x=>cs=g x) size w v l:=
 ⟨_,h,fun i x hx=>flat_slice hg hx⟩
theorem relAll_v {ok:Nat→Prop} {w:World} {lv:Live} (vs:List Value):ybk ok w lv (vs.map AV.v) vs:=by
 refine ⟨by simp,fun i x u hx hu=>?_⟩
 rw [List.getElem?_map,hu] at hx
 cases hx
 exact .v u
theorem ymc {ok:Nat→Prop} {w:World} {lv:Live}:ybk ok w lv [] []:=⟨rfl,fun i x u hx hu=>by simp at hx⟩
theorem ygh {ok:Nat→Prop} {w:World} {lv:Live} {a:AV} {v:Value} {xs:List AV} {vs:List Value} (h:Rel ok w lv a v) (t:ybk ok w lv xs vs):ybk ok w lv (a::xs) (v::vs):=by
 refine ⟨by simp [t.1],fun i x u hx hu=>?_⟩
 cases i with
 | zero=>simp at hx hu;subst hx hu;exact h
 | succ i=>simp at hx hu;exact t.2 i x u hx hu
theorem zit {w:World} {lv:Live} {α:Type} {g:α→List Value} {size:Nat} (hg:∀ x,(g x).length=size) (h1:∀ x,∀ u∈g x,u.oneCell'=true) {v:Value} {l:List α} (h:Row w v size l.length (l.flatMap g)):Rel (okW w) w lv (.sl size (l.map fun x=>(g x).map AV.v)) v:=
 zcu (seq_of_row hg h) (fun x=>by simp [hg]) (fun x c hc=>by
  obtain ⟨u,hu,rfl⟩:=List.mem_map.1 hc
  exact h1 x u hu) (fun x _ cs hc=>by subst hc;exact relAll_v _)
theorem ints_rel {w:World} {lv:Live} {v:Value} {l:List Int} (h:yvd .i64 w v l):Rel (okW w) w lv (yam l) v:=by
 refine zit (g:=fun t:Int=>[.int .i64 t]) (fun _=>rfl) (fun x u hu=>by simp at hu;subst hu;rfl) ?_
 unfold yvd at h
 rwa [zne l]
theorem okW_lt (w:World):∀ g,okW w g→g < w.heap.size:=fun _ h=>h
end
section
open Go.RowKit
def yjl (t:Tm):List AV:=[i64 t.1,i64 t.2]
def ygw (l:List Tm):AV:=.sl 2 (l.map yjl)
def zwj (s:SetD):List AV:=[i64 s.var,ygw s.val]
def yhk (r:RuleD):List AV:=[zqn r.name,ygw r.guard,.sl 2 (r.sets.map zwj)]
def yfv (x:VarD):List AV:=[zqn x.name,i64 x.kind,i64 x.lo,i64 x.hi,i64 x.perNode,i64 x.perID]
def zau (p:ProgD):AV:=.agg [zqn p.name,.sl 6 (p.vars.map yfv),.sl 3 (p.rules.map yhk)]
structure FaultD where
 node:Int
 var:Int
 value:Int
theorem ymd {α:Type} {f:α→List AV} {R:List Value→α→Prop} {ok:Nat→Prop} {w:World} {lv:Live} {size:Nat} {l:List α} {v:Value} (h:Rel ok w lv (.sl size (l.map f)) v) (hok:∀ g,ok g→g < w.heap.size)
  (hR:∀ x∈l,∀ cs,ybk ok w (fun _=>none) (f x) cs→R cs x):Seq R size w v l:=by
 cases h with
 | sl a cap u g o hn hc ha hsz hg hcell hrel=>
  simp only [List.length_map] at hn ⊢
  have hfl:∀ x∈l,(f x).length=size:=fun x hx=>hsz _ (List.mem_map_of_mem hx)
  refine ⟨(List.range (l.length * size)).map fun j=>u (j / size) (j % size),⟨a,cap,rfl,hn,hc,by simp,ha,?_⟩,fun i x hx=>?_⟩
  ·rcases Nat.eq_zero_or_pos l.length with h0|h0
   ·exact .inl h0
   ·obtain ⟨rfl,hok'⟩:=hg (by intro h;simp at h;simp [h] at h0)
    refine .inr ⟨g,o,rfl,hok g hok',fun j v hj=>?_⟩
    have hlt:=(List.getElem?_eq_some_iff.1 hj).1
    simp only [List.length_map,List.length_range] at hlt
    rw [List.getElem?_map,List.getElem?_range hlt] at hj
    simp only [Option.map_some,Option.some.injEq] at hj
    have hs0:0 < size:=by
     rcases Nat.eq_zero_or_pos size with h|h
     ·simp [h] at hlt
     ·exact h
    have hi:j / size < l.length:=by rw [Nat.div_lt_iff_lt_mul hs0];exact hlt
    have hx:=List.getElem?_eq_getElem hi
    have hm:j % size < (f l[j / size]).length:=by rw [hfl _ (List.getElem_mem hi)];exact Nat.mod_lt _ hs0
    have:=(hcell (j / size) (j % size) (f l[j / size]) _ (by simp [hx]) (List.getElem?_eq_getElem hm)).1
    rw [← hj,← this]
    congr 2
    rw [Nat.add_assoc,Nat.mul_comm,Nat.div_add_mod]
  ·refine hR x (List.mem_of_getElem? hx) _ ⟨?_,fun j c v hc hv=>?_⟩
   ·have hi:=(List.getElem?_eq_some_iff.1 hx).1
    rw [hfl x (List.mem_of_getElem? hx),List.length_take,List.length_drop,List.length_map,List.length_range]
    have:i * size+size≤l.length * size:=by rw [← Nat.succ_mul];exact Nat.mul_le_mul_right _ hi
    omega
   ·have hj:j < size:=by have:=(List.getElem?_eq_some_iff.1 hc).1;rw [hfl x (List.mem_of_getElem? hx)] at this;exact this
    have hi:=(List.getElem?_eq_some_iff.1 hx).1
    have hlt:i * size+j < l.length * size:=by
     have:i * size+size≤l.length * size:=by rw [← Nat.succ_mul];exact Nat.mul_le_mul_right _ hi
     omega
    rw [List.getElem?_take,if_pos hj,List.getElem?_drop,List.getElem?_map,List.getElem?_range hlt] at hv
    simp only [Option.map_some,Option.some.injEq] at hv
    have e1:(i * size+j) / size=i:=by rw [Nat.add_comm,Nat.add_mul_div_right _ _ (by omega),Nat.div_eq_of_lt hj,Nat.zero_add]
    have e2:(i * size+j) % size=j:=by rw [Nat.add_comm,Nat.add_mul_mod_self_right,Nat.mod_eq_of_lt hj]
    rw [e1,e2] at hv
    subst hv
    exact hrel i j (f x) c (by simp [hx]) hc
theorem zub {α:Type} {g:α→List Value} {size:Nat} {w:World} {v:Value} {l:List α} (hg:∀ x,(g x).length=size) (h0:0 < size) (h:Seq (fun cs x=>cs=g x) size w v l):Row w v size l.length (l.flatMap g):=zfh g hg h0 h fun cs x h=>h
theorem ygo {ok:Nat→Prop} {w:World} {lv:Live} {l:List Tm} {v:Value} (h:Rel ok w lv (ygw l) v) (hok:∀ g,ok g→g < w.heap.size):yfs w v l:=
 zub (g:=fun t:Tm=>[.int .i64 t.1,.int .i64 t.2]) (fun _=>rfl) (by omega) (ymd h hok fun x _ cs hr=>by
  obtain ⟨u,v,rfl,h1,h2⟩:=yrb hr
  rw [yfg h1,yfg h2])
theorem yzs {ok:Nat→Prop} {w:World} {lv:Live} {p:ProgD} {v:Value} (h:Rel ok w lv (zau p) v) (hok:∀ g,ok g→g < w.heap.size):yqd w v p:=by
 cases h with
 | agg vs hl hc hr=>
  obtain ⟨u,vv,rv,rfl,h1,h2,h3⟩:=zlf ⟨hl,hr⟩
  rw [yfg h1]
  refine ⟨vv,rv,rfl,?_,?_⟩
  ·exact zub (fun _=>rfl) (by omega) (ymd h2 hok fun x _ cs hr=>by
    match cs,hr with
    | [c0,c1,c2,c3,c4,c5],hr=>
     have e0:=yfg (hr.2 0 _ _ rfl rfl)
     have e1:=yfg (hr.2 1 _ _ rfl rfl)
     have e2:=yfg (hr.2 2 _ _ rfl rfl)
     have e3:=yfg (hr.2 3 _ _ rfl rfl)
     have e4:=yfg (hr.2 4 _ _ rfl rfl)
     have e5:=yfg (hr.2 5 _ _ rfl rfl)
     rw [e0,e1,e2,e3,e4,e5];rfl)
  ·exact ymd h3 hok fun x _ cs hr=>by
    obtain ⟨u,gv,sv,rfl,q1,q2,q3⟩:=zlf hr
    rw [yfg q1]
    exact ⟨gv,sv,rfl,ygo q2 hok,ymd q3 hok fun y _ cs hr=>by
     obtain ⟨u,tv,rfl,r1,r2⟩:=yrb hr
     rw [yfg r1]
     exact ⟨tv,rfl,ygo r2 hok⟩⟩
end
section
open Go.RowKit
def ydb (g:GraphD) (v:Nat) (ls:List Lk):List Int:=ls.map fun l=>yid (g.ports.getD l.1.toNat []) v
def ynb (g:GraphD):List (List Int):=g.ports.mapIdx fun v ls=>ydb g v ls
def yxk (p:ProgD) (g:GraphD):List AV:=[zqn p.name,.sl 6 (p.vars.map yfv),.sl 3 (p.rules.map yhk),yam g.ids,ybj g.ports,i64 (ybz g.ids),ykd (ynb g)]
def zcw (p:ProgD) (g:GraphD):AV:=.dp (yxk p g) 0
theorem backs_get {g:GraphD} {v:Nat} {ls:List Lk} (h:g.ports[v]?=some ls):(ynb g)[v]?=some (ydb g v ls):=by simp [ynb,List.getElem?_mapIdx,h]
theorem back_get {g:GraphD} {v k:Nat} {ls ls':List Lk} {l:Lk} (h:ls[k]?=some l) (h':g.ports[l.1.toNat]?=some ls'):(ydb g v ls)[k]?=some (yid ls' v):=by
 simp [ydb,h,List.getD_eq_getElem?_getD,h']
def zlt (p:ProgD) (g:GraphD) (c:List (List Int)) (v:Nat) (e:List Tm):AV:=.dp [zcw p g,ykd c,i64 v,ygw e] 0
end
section
open Go.RowKit
theorem fact_con (p:ProgD) (g:GraphD) (hg:ycy g=true) (c:List (List Int)) (v:Nat) (ls:List Lk) (hls:g.ports[v]?=some ls) (op port a:Int) (hop:6≤op∧op≤17∧op≠12) (hp:12≤op→0≤port∧port < ls.length) :
  Con Tryz.prog 251 [zcw p g,i64 op,i64 v,i64 port] (i64 ((⟨g,c,v⟩:Scn).leaf port (op,a))):=by
 have hv:=yca hg
 have hvl:=(List.getElem?_eq_some_iff.1 hls).1
 have hlb:=hv.2.2.2.2.2.1 v ls hls
 have hll:=yeg hvl hlb
 have hids:=hv.2.2.1
 obtain ⟨id,hid⟩:=ycd (show v < g.ids.length by omega)
 have hd:(⟨g,c,v⟩:Scn).deg=ls.length:=by simp [Scn.deg,List.getD_eq_getElem?_getD,hls]
 refine yao Tryz.func251 rfl rfl Tryz.ntmps251 Tryz.results251 rfl rfl ?_
 have:op=6∨op=7∨op=8∨op=9∨op=10∨op=11∨12 < op:=by omega
 rcases this with rfl|rfl|rfl|rfl|rfl|rfl|h12
 ·(try refine zy ?_)
  refine yaf ?_;refine ⟨_,rfl,?_⟩;exact yai rfl
 ·(try refine zy ?_)
  refine yaf ?_;refine ⟨_,rfl,?_⟩;exact yai rfl
 ·(try refine zy ?_)
  refine yaf ?_;refine ⟨_,rfl,?_⟩;exact yai (by simp [Scn.leaf,List.getD_eq_getElem?_getD,hid])
 ·(try refine zy ?_)
  refine yaf ?_;refine ⟨_,rfl,?_⟩;exact yai (by simp [Scn.leaf,hd])
 ·(repeat (first|refine zy ?_|refine yad rfl rfl (yer _) rfl rfl ?_))
  refine yaf ?_;refine ⟨_,rfl,?_⟩;exact yai (by simp only [Scn.leaf];show yto ((v:Int) == 0)=yto (v == 0);congr 1;rw [Bool.eq_iff_iff,beq_iff_eq,beq_iff_eq];omega)
 ·(try refine zy ?_)
  refine yaf ?_;refine ⟨_,rfl,?_⟩;exact yai rfl
 ·obtain ⟨hp0,hp1⟩:=hp (by omega)
  obtain ⟨l,hl⟩:=ycd (show port.toNat < ls.length by omega)
  have hl1:=(ybs _ _ _).1 (((ybo _ _ _).1 hlb).1 l (List.mem_of_getElem? hl))
  have hlk:(⟨g,c,v⟩:Scn).link port=l:=by simp [Scn.link,List.getD_eq_getElem?_getD,hls,hl]
  obtain ⟨ls',hls'⟩:=ycd (show l.1.toNat < g.ports.length by omega)
  obtain ⟨id',hid'⟩:=ycd (show l.1.toNat < g.ids.length by omega)
  have hll':=yeg (show l.1.toNat < g.ports.length by omega) (hv.2.2.2.2.2.1 _ ls' hls')
  have hb1:=backs_get hls
  have hb2:=back_get (g:=g) (v:=v) hl hls'
  have:op=13∨op=14∨op=15∨op=16∨op=17:=by omega
  rcases this with rfl|rfl|rfl|rfl|rfl
  ·(try refine zy ?_)
   refine yaf ?_;refine ⟨_,rfl,?_⟩;exact yai (by simp [Scn.leaf,hlk,List.getD_eq_getElem?_getD,hid'])
  ·(try refine zy ?_)
   refine yaf ?_;refine ⟨_,rfl,?_⟩;exact yai (by simp [Scn.leaf,hlk,List.getD_eq_getElem?_getD,hls'])
  ·(repeat (first|refine zy ?_|refine yad rfl rfl (yer _) rfl rfl ?_))
   refine yaf ?_;refine ⟨_,rfl,?_⟩;exact yai (by simp [Scn.leaf,hlk])
  ·(try refine zy ?_)
   refine yaf ?_;refine ⟨_,rfl,?_⟩;exact yai (by simp [Scn.leaf,hlk])
  ·(try refine zy ?_)
   refine yaf ?_;refine ⟨_,rfl,?_⟩;exact yai (by simp [Scn.leaf,hlk,List.getD_eq_getElem?_getD,hls'])
theorem wleaf_con (p:ProgD) (g:GraphD) (hg:ycy g=true) (c:List (List Int)) (e:List Tm) (v:Nat) (ls:List Lk) (hls:g.ports[v]?=some ls) (t:Tm) (port:Int) (hop:1≤t.1∧t.1≤17) (hp:12≤t.1→0≤port∧port < ls.length)
  (hc:c.length=g.ports.length) (hx:t.1=5∨t.1=12→0≤t.2∧∀ r∈c,t.2 < r.length) :
  Con Tryz.prog 225 [zlt p g c v e,.agg [i64 t.1,i64 t.2],i64 port] (i64 ((⟨g,c,v⟩:Scn).leaf port t)):=by
 obtain ⟨op,a⟩:=t
 simp only at hop hp hx ⊢
 have hv:=yca hg
 have hvl:=(List.getElem?_eq_some_iff.1 hls).1
 have hlb:=hv.2.2.2.2.2.1 v ls hls
 have hll:=yeg hvl hlb
 obtain ⟨r,hr⟩:=ycd (show v < c.length by omega)
 refine yao Tryz.func225 rfl rfl Tryz.ntmps225 Tryz.results225 rfl rfl ?_
 have:op=1∨op=2∨op=3∨op=4∨op=5∨op=12∨(6≤op∧op≤17∧op≠12):=by omega
 rcases this with rfl|rfl|rfl|rfl|rfl|rfl|h12
 ·(try refine zy ?_)
  refine yaf ?_;refine ⟨_,rfl,?_⟩;exact yai rfl
 ·(try refine zy ?_)
  refine yaf ?_;refine ⟨_,rfl,?_⟩;exact yai rfl
 ·(try refine zy ?_)
  refine yaf ?_;refine ⟨_,rfl,?_⟩;exact yai rfl
 ·(try refine zy ?_)
  refine yaf ?_;refine ⟨_,rfl,?_⟩;exact yai rfl
 ·obtain ⟨hx0,hx1⟩:=hx (.inl rfl)
  have hx2:=hx1 r (List.mem_of_getElem? hr)
  obtain ⟨z,hz⟩:=ycd (show a.toNat < r.length by omega)
  (try refine zy ?_)
  refine yaf ?_;refine ⟨_,rfl,?_⟩;exact yai (by simp [Scn.leaf,Scn.get,List.getD_eq_getElem?_getD,hr,hz])
 ·obtain ⟨hp0,hp1⟩:=hp (by omega)
  obtain ⟨l,hl⟩:=ycd (show port.toNat < ls.length by omega)
  have hl1:=(ybs _ _ _).1 (((ybo _ _ _).1 hlb).1 l (List.mem_of_getElem? hl))
  have hlk:(⟨g,c,v⟩:Scn).link port=l:=by simp [Scn.link,List.getD_eq_getElem?_getD,hls,hl]
  obtain ⟨r',hr'⟩:=ycd (show l.1.toNat < c.length by omega)
  obtain ⟨hx0,hx1⟩:=hx (.inr rfl)
  have hx2:=hx1 r' (List.mem_of_getElem? hr')
  obtain ⟨z,hz⟩:=ycd (show a.toNat < r'.length by omega)
  (try refine zy ?_)
  refine yaf ?_;refine ⟨_,rfl,?_⟩;exact yai (by simp [Scn.leaf,Scn.get,hlk,List.getD_eq_getElem?_getD,hr',hz])
 ·have h1:¬ op=1:=by omega
  have h2:¬ op=2:=by omega
  have h3:¬ op=3:=by omega
  have h4:¬ op=4:=by omega
  have h5:¬ op=5:=by omega
  (try refine zy ?_)
  refine yac rfl (fun q1=>?_) (fun q1=>?_)
  ·exact absurd (by simpa using q1) h1
  (try refine zy ?_)
  refine yac rfl (fun q2=>?_) (fun q2=>?_)
  ·exact absurd (by simpa using q2) h2
  (try refine zy ?_)
  refine yac rfl (fun q3=>?_) (fun q3=>?_)
  ·exact absurd (by simpa using q3) h3
  (try refine zy ?_)
  refine yac rfl (fun q4=>?_) (fun q4=>?_)
  ·exact absurd (by simpa using q4) h4
  (try refine zy ?_)
  refine yac rfl (fun q5=>?_) (fun q5=>?_)
  ·exact absurd (by simpa using q5) h5
  (try refine zy ?_)
  refine yac rfl (fun q6=>?_) (fun q6=>?_)
  ·exact absurd (by simpa using q6) h12.2.2
  (repeat (first|refine zy ?_|refine yad rfl rfl (fact_con p g hg c v ls hls op port a h12 hp) rfl rfl ?_))
  refine yaf ?_;refine ⟨_,rfl,?_⟩;exact yai rfl
end
end Go.Proofs.YtfhejdcijbgikaaGreatDoor
